import Derived.Test.YthpnifigjfplbaaGreatQP38
import Derived.Test.YthpnifigjfplbaaGreatQP40
import Derived.Test.YthpnifigjfplbaaGreatQP27
import Derived.Test.YthpnifigjfplbaaGreatQP30
set_option linter.unusedVariables false
set_option linter.unusedSimpArgs false
set_option linter.unusedSectionVars false
namespace Go.Proofs.YthpnifigjfplbaaGreat.vc
open Go Go.AX
section
variable {B:Int} {m:Mem} {Q:Value->Mem->Prop} {a1 a2:Option Addr} {n1 c1 n2 c2:Nat}
theorem M5(h:Q (.bool true) m):ah cx kF [] m Q:=ah.ov dh MP rfl h
theorem ND{k:Nat}(h:k<=1000000):bh .i64 (k:Int) 1=((k+1:Nat):Int):=by
 rw[dG (by omega) (by omega)];rfl
structure MadeOk (x0:Int) (k:Nat) (τ : pm.St):Prop where
 iv:pm.Iv (k:Int) τ
 hd:pm.Hd τ
 m:τ.m=x0
 now:τ.now<=30*(k:Int)
theorem OG{x0:Int}{most:List Int}{l:List AV}{A:List pm.Act}(hw:Wf m)(hm:Arr encI 1 m a1 n1 most)(hl:Arr H5 6 m a2 n2 l)(hA:All2 (RdAct m) l A)
  (hF:∀m' x0' now' b1 e1 d1 b2 e2 d2 b3 e3 d3,Keep m m'->Q (.tuple #[.agg #[.int .i64 x0',.int .i64 now',.slice b1 e1 d1,.slice b2 e2 d2,.slice b3 e3 d3],.bool false]) m')
  (hQ:∀m' now' b1 e1 d1 b2 e2 d2 b3 e3 d3 k τ,Keep m m'->RdSt cx m' x0 now' b1 e1 b2 e2 b3 e3 d3 τ->k<=40->MadeOk x0 k τ->Q (.tuple #[.agg #[.int .i64 x0,.int .i64 now',.slice b1 e1 d1,.slice b2 e2 d2,.slice b3 e3 d3],.bool true]) m') :
  ah cx wW [.int .i64 x0,.slice a1 n1 c1,.slice a2 n2 c2] m Q:=by
 apply EN;unfold wX;have k0:Keep m (bump m 1):=(Keep.refl hw).bump;refine Ba k0.wf (hm.keep hw k0) (fun m1 k1 hne _=>⟨_,_,_,_,_,_,_,_,_,_,_,_,rfl,?_⟩) (fun m1 b2 d2 k1 he hR=>⟨_,_,_,_,_,_,_,_,_,_,_,_,rfl,?_⟩)
 .have k01:=(k0.trans k1).bump (n:=1);refine dR (fun f:Bool->Mem->Prop=>f true (bump m1 1)) ?_ ?_
  .exact cJ (fun _=>hF _ _ _ _ _ _ _ _ _ _ _ _ k01) (fun h=>by cases h)
  .exact fun J hJ=>fX (fun _=>hJ) (fun e=>absurd e (by decide))
 .obtain⟨hI,he2,_⟩:=pm.O9 he;have hn0:(pm.new x0 most).1.now=0:=by rw[he2]
  have hM:(pm.new x0 most).1.m=x0:=by rw[he2]
  have hd:=pm.O8 x0 most;generalize (pm.new x0 most).1 = σ at hI hR hn0 hM hd;have k01:=(k0.trans k1).bump (n:=1);have kb:Keep m1 (bump m1 1):=(Keep.refl k1.wf).bump;refine dR (fun f:Bool->Mem->Prop=>∀b,(b=false->n2<=40)->f b (bump m1 1)) ?_ ?_
  .intro b hb;refine cJ (fun _=>hF _ _ _ _ _ _ _ _ _ _ _ _ k01) (fun hbf=>?_);have hn2:=hb hbf;refine⟨fun x10 xc xc1 ac nc cc ac2 nc2 cc2 ac3 nc3 cc3 mm w=>∃(k:Nat) (τ : pm.St),x10=(k:Int)/\k<=n2/\w=n2-k/\xc=x0/\Keep m mm/\RdSt cx mm x0 xc1 ac nc ac2 nc2 ac3 nc3 cc3 τ/\MadeOk x0 k τ,
    ⟨n2,0,σ,rfl,Nat.zero_le _,rfl,rfl,k01,hR.keep k1.wf kb,hI,hd,hM,by rw[hn0];simp⟩,?_⟩
   rintro x10 xc xc1 ac nc cc ac2 nc2 cc2 ac3 nc3 cc3 mm w ⟨k,τ,rfl,hk,rfl,rfl,kk,hS,hO⟩;refine dH (fun hlt=>?_) (fun hge=>hQ _ _ _ _ _ _ _ _ _ _ _ k τ kk hS (by omega) hO);obtain⟨v,hv⟩:∃v,l[k]? = some v:=⟨_,List.getElem?_eq_getElem (by have:=hl.1;omega)⟩;obtain⟨X',hX',hr⟩:=hA.get hv;obtain⟨op,who,q,p,n,steps⟩:=X';obtain⟨o1,o2,o3,o4,o5,oa,on,oc⟩:=v;obtain⟨z1,z2,z3,z4,z5,hst⟩:=hr;simp only at z1 z2 z3 z4 z5 hst;subst z1 z2 z3 z4 z5;have k4:Keep mm (bump mm 1):=(Keep.refl kk.wf).bump;have hBk:(k:Int)<4611686018427387904:=by omega
   have hkc:((k+1:Nat):Int)=(k:Int)+1:=by omega
   have ea:=ND (k:=k) (by omega);have hdec:n2-(k+1)<n2-k:=by omega
   have next:∀{τ':pm.St},pm.Iv ((k:Int)+1) τ'->pm.Hd τ'->τ'.m = τ.m->τ'.now<=τ.now+30->MadeOk xc (k+1) τ':=fun h1 h2 h3 h4=>
    ⟨by rw[hkc];exact h1,h2,h3.trans hO.m,by have:=hO.now;omega⟩
   refine(hl.keep hw kk).open (k:=k) hv fun b o hc=>⟨o1,hc 0 _ rfl,o2,hc 1 _ rfl,o3,hc 2 _ rfl,o4,hc 3 _ rfl,o5,hc 4 _ rfl,oa,on,oc,hc 5 _ rfl,?_⟩
   refine dY (fun _=>hF _ _ _ _ _ _ _ _ _ _ _ _ (kk.trans k4)) (fun _=>?_);have hIk:=hO.iv;refine cJ (fun c0=>?_) (fun c0=>?_)
   .obtain⟨i1,i2,i3,_⟩:=pm.Pb hIk (by omega) o2 o3 o4;exact A9 k4.wf (hS.keep kk.wf k4) hIk fun m' b1 n1' d1 b2 d2 b3 d3 k' hR'=>⟨_,_,_,_,_,_,_,_,_,_,_,_,rfl,_,hdec,k+1,_,ea,hlt,rfl,rfl,(kk.trans k4).trans k',hR',next (i1.mono (by omega)) (pm.O7 hO.hd _ _ _) i2 (by rw[i3];omega)⟩
   refine cJ (fun c1=>?_) (fun c1=>?_)
   .obtain⟨i1,i2,i3,_⟩:=pm.N1 hIk o2;exact Oo k4.wf (hS.keep kk.wf k4) hIk fun m' b1 n1' d1 b2 d2 b3 d3 k' hR'=>⟨_,_,_,_,_,_,_,_,_,_,_,_,rfl,_,hdec,k+1,_,ea,hlt,rfl,rfl,(kk.trans k4).trans k',hR',next (i1.mono (by omega)) (pm.NZ hO.hd _) i2 (by rw[i3];omega)⟩
   refine cJ (fun c2=>?_) (fun c2=>?_)
   .obtain⟨i1,i2,i3,_⟩:=pm.IB hIk hBk o2 steps;exact Jb k4.wf (hS.keep kk.wf k4) hIk hBk (hst.keep hw (kk.trans k4)) fun m' b1 d1 b2 d2 b3 d3 ae ne ce k' hR' _ _=>⟨_,_,_,_,_,_,_,_,_,_,_,_,_,_,_,rfl,_,hdec,k+1,_,ea,hlt,rfl,rfl,(kk.trans k4).trans k',hR',next i1 (pm.Ix hO.hd _ _) i2 (by rw[i3];omega)⟩
   refine dR (fun f:Bool->Mem->Prop=>f (cU o1 3 || cU o1 4) (bump mm 1)) ?_ ?_
   .refine cJ (fun c3=>?_) (fun c3=>?_)
    .obtain⟨i1,i2,i3,_⟩:=pm.Kb hIk o2 (cU o1 3);exact KO k4.wf (hS.keep kk.wf k4) hIk fun m' b1 d1 b2 d2 b3 n3' d3 k' hR'=>⟨_,_,_,_,_,_,_,_,_,_,_,_,rfl,_,hdec,k+1,_,ea,hlt,rfl,rfl,(kk.trans k4).trans k',hR',next (i1.mono (by omega)) (pm.J9 hO.hd _ _) i2 (by rw[i3];omega)⟩
    .refine⟨fun x5' yc yc1 bc oc dc bc2 oc2 dc2 bc3 oc3 dc3 mt w=>∃t:Nat,x5'=(t:Int)/\t<=30/\w=30-t/\yc=xc/\Keep mm mt/\RdSt cx mt xc yc1 bc oc bc2 oc2 bc3 oc3 dc3 (pm.dP t τ),⟨30,0,rfl,Nat.zero_le _,rfl,rfl,k4,hS.keep kk.wf k4⟩,?_⟩;rintro x5' yc yc1 bc oc dc bc2 oc2 dc2 bc3 oc3 dc3 mt w ⟨t,rfl,ht,rfl,rfl,kt,hR'⟩;obtain⟨j1,j2,_,_,j5⟩:=pm.mZ hIk t;have done:MadeOk yc (k+1) (pm.dP t τ):=next (j1.mono (by omega)) (pm.wC hIk hO.hd t) j2 (by omega);refine dR (fun f:Mem->Prop=>t<30->f mt) ?_ ?_
     .intro hlt';refine HY kt.wf hR' j1 fun m' now' b1 d1 b2 d2 b3 d3 ae ne ce k2 hR2 _ _=>⟨_,_,_,_,_,_,_,_,_,_,_,_,_,_,_,rfl,30-(t+1),?_,t+1,ND (by omega),hlt',rfl,rfl,kt.trans k2,hR2⟩
      clear hdec;omega
     .intro J' hJ';refine dY (fun l1=>dY (fun l2=>hJ' (by clear hdec;omega)) (fun l2=>⟨_,hdec,k+1,_,ea,hlt,rfl,rfl,kk.trans kt,hR',done⟩)) (fun l1=>⟨_,hdec,k+1,_,ea,hlt,rfl,rfl,kk.trans kt,hR',done⟩)
   .intro J' hJ';refine cJ (fun c3=>?_) (fun c3=>?_)
    .rw[c3,Bool.true_or]at hJ';exact hJ'
    .rw[c3,Bool.false_or]at hJ';exact hJ'
  .intro J hJ;refine fX (fun e=>absurd (by rfl) e) (fun _=>dY (fun _=>hJ true (fun h=>by cases h)) (fun h15=>hJ _ (fun _=>?_)));simp only[aQ]at h15;omega
theorem Qc:ActT Tryz.prog D8 (match Tryz.prog.underlying D8 with|some (.struct fs)=>fs|_=>#[]) where
 he:=by kernel_rfl
 hone:=by kernel_rfl
 hC:=by kernel_rfl
 hs:=by kernel_rfl
 ints:=fun j hj=>match j,hj with
  | 0,_=>⟨t_int,by kernel_rfl,Tryz.underlying3⟩
  | 1,_=>⟨t_int,by kernel_rfl,Tryz.underlying3⟩
  | 2,_=>⟨jt,by kernel_rfl,Tryz.underlying2⟩
  | 3,_=>⟨jt,by kernel_rfl,Tryz.underlying2⟩
  | 4,_=>⟨jt,by kernel_rfl,Tryz.underlying2⟩
 steps:=⟨C2,fV,t_int,jt,(match Tryz.prog.underlying fV with|some (.struct fs)=>fs|_=>#[]),by kernel_rfl,by kernel_rfl,by kernel_rfl,by kernel_rfl,by kernel_rfl,by kernel_rfl,by kernel_rfl,Tryz.underlying3,by kernel_rfl,Tryz.underlying2⟩
end
end Go.Proofs.YthpnifigjfplbaaGreat.vc
namespace Go.Proofs.YthpnifigjfplbaaGreat.vc
open Go Go.AX
section
variable {m:Mem} {a1 a2 a3:Option Addr} {n1 c1 n2 c2 n3 c3:Nat}
theorem OI(x y z w x' y' z' w':Int)(m:Mem):fM cx m 40 t_model_Event (.agg #[.int .i64 x,.int .i64 y,.int .i64 z,.int .i64 w]) (.agg #[.int .i64 x',.int .i64 y',.int .i64 z',.int .i64 w'])=qK (some (decide (x=x'))) (qK (some (decide (y=y'))) (qK (some (decide (z=z'))) (qK (some (decide (w=w'))) (some true)))):=by kernel_rfl
theorem GD(x y z w:Int)(m:Mem):fM cx m 40 t_model_Event (.agg #[.int .i64 x,.int .i64 y,.int .i64 z,.int .i64 w]) (.agg #[.int .i64 x,.int .i64 y,.int .i64 z,.int .i64 w])=some true:=by
 rw[OI,oS,oS,oS,oS];rfl
end
end Go.Proofs.YthpnifigjfplbaaGreat.vc
namespace Go.Proofs.YthpnifigjfplbaaGreat.vc
open Go Go.AX
section
variable {m:Mem} {a1 a2 a3:Option Addr} {n1 c1 n2 c2 n3 c3:Nat}
theorem NF{k:Nat}(h:k<=100000000):bh .i64 (k:Int) 1=((k+1:Nat):Int):=by
 rw[dG (by omega) (by omega)];rfl
theorem NG{a b:Nat}(h:b<a):a-(b+1)<a-b:=by omega
theorem K3{x0 xa xb:Int}{most:List Int}{l:List AV}{A:List pm.Act}(hw:Wf m)(hm:Arr encI 1 m a1 n1 most)(hl:Arr H5 6 m a2 n2 l)(hA:All2 (RdAct m) l A) :
  ah cx uC [.int .i64 x0,.slice a1 n1 c1,.slice a2 n2 c2,.int .i64 xa,.int .i64 xb] m fun r _=>r = .bool true:=by
 apply yH;unfold pZ;refine M5 ⟨true,rfl,dM (fun h=>by cases h) (fun _=>?_)⟩;refine OG hw hm hl hA (fun m' _ _ _ _ _ _ _ _ _ _ _ k=>⟨_,_,_,_,_,_,_,_,_,_,_,_,rfl,dR (fun _=>True) trivial fun J _=>dM (fun _=>rfl) (fun h=>by cases h)⟩) (fun m2 now2 b1 e1 d1 b2 e2 d2 b3 e3 d3 k σ k2 hS hk hO=>⟨_,_,_,_,_,_,_,_,_,_,_,_,rfl,?_⟩);have hI:=hO.iv;have hd:=hO.hd;have hn:=hO.now;have hn0:=hI.now1;have kb:Keep m2 (bump m2 1):=(Keep.refl k2.wf).bump;refine dR (fun f:Mem->Prop=>0<=xa->0<=xb->xa<=1099511627776->xb<=1099511627776->f (bump m2 1)) ?_ ?_
 .intro ha0 hb0 ha1 hb1;obtain⟨a,rfl⟩:∃a:Nat,xa=(a:Int):=⟨xa.toNat,by omega⟩;obtain⟨b,rfl⟩:∃b:Nat,xb=(b:Int):=⟨xb.toNat,by omega⟩;have hnow:σ.now+((a+b:Nat):Int)<=4611686018427387904:=by omega
  refine dR (fun f:Mem->Prop=>∀m4,Keep (bump m2 1) m4->(pm.io (a+b) σ).length<=100000000->f m4) ?_ ?_
  .intro m4 k4 hlen;have hsplit:=pm.vB a b σ;have hla:(pm.io a σ).length<=100000000:=by rw[hsplit,List.length_append]at hlen;omega
   have hlb:(pm.io b (pm.dP a σ)).length<=100000000:=by rw[hsplit,List.length_append]at hlen;omega
   have hIa:=(pm.mZ hI a).1;have hda:=pm.wC hI hd a;have hna:=pm.yf hI a (by omega);have k24:=kb.trans k4;refine I8 k4.wf (hS.keep k2.wf k24) hI hd (by omega) hla fun m5 now5 s1 t1 s2 t2 s3 t3 ae ne ce k5 hT hTE=>⟨_,_,_,_,_,_,_,_,_,_,_,_,_,_,_,rfl,?_⟩
   have k5b:Keep m5 (bump m5 1):=(Keep.refl k5.wf).bump;refine I8 k5b.wf (hT.keep k5.wf k5b) hIa hda (by omega) hlb fun m6 now6 u1 v1 u2 v2 u3 v3 av nv cv k6 hU hUE=>⟨_,_,_,_,_,_,_,_,_,_,_,_,_,_,_,rfl,?_⟩
   have k6b:Keep m6 (bump m6 1):=(Keep.refl k6.wf).bump;have eab:bh .i64 (a:Int) (b:Int)=((a+b:Nat):Int):=by rw[dG (by omega) (by omega)];omega
   rw[eab];have k26:=(k24.trans k5).trans (k5b.trans (k6.trans k6b));refine I8 k6b.wf (hS.keep k2.wf k26) hI hd hnow hlen fun m7 now7 x1 y1 x2 y2 x3 y3 aw nw cw k7 hV hVE=>⟨_,_,_,_,_,_,_,_,_,_,_,_,_,_,_,rfl,?_⟩
   have k7b:Keep m7 (bump m7 1):=(Keep.refl k7.wf).bump;have k67:Keep m6 (bump m7 1):=k6b.trans (k7.trans k7b);have k57:Keep m5 (bump m7 1):=k5b.trans (k6.trans k67);have hnw:nw=ne+nv:=by rw[<-hVE.1,<-hTE.1,<-hUE.1,hsplit,List.length_append]
   have hnel:ne<=100000000:=by rw[<-hTE.1];exact hla
   have hnvl:nv<=100000000:=by rw[<-hUE.1];exact hlb
   have hnwl:nw<=100000000:=by rw[<-hVE.1];exact hlen
   refine dR (fun f:Mem->Prop=>∀m8,Keep (bump m7 1) m8->f m8) ?_ ?_
   .intro m8 k8;refine⟨fun x23 mm w=>∃i:Nat,x23=(i:Int)/\i<=nw/\w=nw-i/\Keep m8 mm,⟨_,0,rfl,Nat.zero_le _,rfl,Keep.refl k8.wf⟩,?_⟩;rintro x23 m9 w ⟨i,rfl,hi,rfl,k9⟩;refine dH (fun hlt=>?_) (fun _=>rfl);have k9b:Keep m9 (bump m9 35):=(Keep.refl k9.wf).bump;have k89:=k8.trans (k9.trans k9b);have A7:=hVE.keep k7.wf (k7b.trans k89);have A5:=hTE.keep k5.wf (k57.trans k89);have A6:=hUE.keep k6.wf (k67.trans k89);have next:∀mz,Keep m9 mz->∃n_59:Nat,n_59<nw-i/\∃i':Nat,bh .i64 (i:Int) 1=(i':Int)/\i'<=nw/\n_59=nw-i'/\Keep m8 mz:=fun mz kz=>⟨_,NG hlt,i+1,NF (by omega),hlt,rfl,k9.trans kz⟩
    have second:ne<=i->(0<=(i:Int)/\(i:Int)<((nw:Nat):Int))/\da aw fun ba oa=>∃x151,rd (bump m9 35) ba (oa+Int.toNat (i:Int)*4)=some (.int .i64 x151)/\∃x152,rd (bump m9 35) ba (oa+Int.toNat (i:Int)*4+1)=some (.int .i64 x152)/\∃x153,rd (bump m9 35) ba (oa+Int.toNat (i:Int)*4+2)=some (.int .i64 x153)/\∃x154,rd (bump m9 35) ba (oa+Int.toNat (i:Int)*4+3)=some (.int .i64 x154)/\
      (0<=cY .i64 (i:Int) (aQ ne)/\cY .i64 (i:Int) (aQ ne)<((nv:Nat):Int))/\da av fun bb ob=>∃y1,rd (bump m9 35) bb (ob+Int.toNat (cY .i64 (i:Int) (aQ ne))*4)=some (.int .i64 y1)/\∃y2,rd (bump m9 35) bb (ob+Int.toNat (cY .i64 (i:Int) (aQ ne))*4+1)=some (.int .i64 y2)/\∃y3,rd (bump m9 35) bb (ob+Int.toNat (cY .i64 (i:Int) (aQ ne))*4+2)=some (.int .i64 y3)/\∃y4,rd (bump m9 35) bb (ob+Int.toNat (cY .i64 (i:Int) (aQ ne))*4+3)=some (.int .i64 y4)/\
      ∃r:Bool,fM cx (bump m9 35) 40 t_model_Event (.agg #[.int .i64 x151,.int .i64 x152,.int .i64 x153,.int .i64 x154]) (.agg #[.int .i64 y1,.int .i64 y2,.int .i64 y3,.int .i64 y4])=some r/\splitB (!r) ((Value.bool false) = .bool true) (∃n_59:Nat,n_59<nw-i/\∃i':Nat,bh .i64 (i:Int) 1=(i':Int)/\i'<=nw/\n_59=nw-i'/\Keep m8 (bump m9 35)):=by
     intro hge;obtain⟨p,rfl⟩:∃p,i=ne+p:=⟨i-ne,by omega⟩;obtain⟨e,he⟩:∃e,(pm.io b (pm.dP a σ))[p]? = some e:=⟨_,List.getElem?_eq_getElem (by rw[hUE.1];omega)⟩;have he7:(pm.io (a+b) σ)[ne+p]? = some e:=by
      rw[hsplit,List.getElem?_append_right (by rw[hTE.1];omega),hTE.1,Nat.add_sub_cancel_left];exact he
     have es:cY .i64 ((ne+p:Nat):Int) (aQ ne)=(p:Int):=by
      unfold aQ;rw[eY (by omega) (by omega)];omega
     rw[es];refine A7.open (k:=ne+p) he7 fun bb o hc=>⟨_,hc 0 _ rfl,_,hc 1 _ rfl,_,hc 2 _ rfl,_,hc 3 _ rfl,?_⟩
     refine A6.open (k:=p) he fun bb o hc=>⟨_,hc 0 _ rfl,_,hc 1 _ rfl,_,hc 2 _ rfl,_,hc 3 _ rfl,true,GD _ _ _ _ _,dM (fun h=>by cases h) (fun _=>next _ k9b)⟩
    refine dH (fun hlt1=>?_) (fun hge1=>?_)
    .obtain⟨e,he⟩:∃e,(pm.io a σ)[i]? = some e:=⟨_,List.getElem?_eq_getElem (by rw[hTE.1];exact hlt1)⟩;have he7:(pm.io (a+b) σ)[i]? = some e:=by
      rw[hsplit,List.getElem?_append_left (by rw[hTE.1];exact hlt1)];exact he
     refine A7.open (k:=i) he7 fun bb o hc=>⟨_,hc 0 _ rfl,_,hc 1 _ rfl,_,hc 2 _ rfl,_,hc 3 _ rfl,?_⟩
     refine A5.open (k:=i) he fun bb o hc=>⟨_,hc 0 _ rfl,_,hc 1 _ rfl,_,hc 2 _ rfl,_,hc 3 _ rfl,true,GD _ _ _ _ _,dM (fun h=>by cases h) (fun _=>?_)⟩
     refine qT (fun h=>?_) (fun _=>next _ k9b);exfalso;unfold aQ at h;omega
    .refine qT (fun h=>second hge1) (fun h=>?_);exfalso;unfold aQ at h;omega
   .intro J hJ;refine fX (fun e=>absurd rfl e) (fun _=>fX (fun e=>absurd rfl e) (fun _=>fX (fun e=>absurd rfl e) (fun _=>?_)));have hIab:=(pm.mZ hI (a+b)).1;rw[pm.um]at hV hIab;refine OJ (k5b.wf |> fun _=>k7b.wf) (hU.keep k6.wf k67) (hV.keep k7.wf k7b) hIab fun m10 k10=>⟨true,rfl,dM (fun h=>by cases h) (fun _=>?_)⟩
    refine fX (fun e=>absurd ?_ e) (fun _=>hJ m10 k10);unfold aQ;rw[dG (by omega) (by omega),hnw];omega
  .intro J hJ;refine dR (fun f:Bool->Mem->Prop=>∀c,(c=false->a<=3000/\b<=3000)->f c (bump m2 1)) ?_ ?_
   .intro c hc;refine cJ (fun _=>?_) (fun hcf=>?_)
    .obtain⟨ss,aS,rS⟩:=hS.servs;have l1:=hS.len1;have hz1:=hI.len1;refine⟨fun x13 mm w=>∃i:Nat,x13=(i:Int)/\i<=e1/\w=e1-i/\Keep (bump m2 1) mm/\∀x∈σ.servs.take i,x.s.mode=0,⟨_,0,rfl,Nat.zero_le _,rfl,Keep.refl kb.wf,fun x hx=>by rw[List.take_zero]at hx;cases hx⟩,?_⟩;rintro x13 m12 w ⟨i,rfl,hi,rfl,k12,hz⟩;refine dH (fun hlt=>?_) (fun hge=>?_)
     .obtain⟨x,hx⟩:∃x,σ.servs[i]? = some x:=⟨_,List.getElem?_eq_getElem (by omega)⟩;obtain⟨v,hv,rv⟩:=rS.get' hx;have ev:v.s=x.s:=rv.s;refine(aS.keep k2.wf (kb.trans k12)).open (k:=i) hv fun bb o hc=>⟨_,hc 5 _ rfl,?_⟩
      rw[ev];refine fX (fun _=>rfl) (fun h0=>⟨_,NG hlt,i+1,NF (by omega),hlt,rfl,k12,fun y hy=>?_⟩);rw[List.take_add_one,hx]at hy;rcases List.mem_append.1 hy with hy|hy
      .exact hz y hy
      .simp at hy;subst hy;exact h0
     .rw[List.take_of_length_le (by omega)]at hz;refine hJ m12 k12 ?_;rw[(pm.Me hI hd hz (a+b) hnow).1];simp
    .obtain⟨h1,h2⟩:=hc hcf;refine hJ _ (Keep.refl kb.wf) ?_;have:=pm.HF hI (a+b);omega
   .intro J' hJ';refine dY (fun _=>hJ' true (fun h=>by cases h)) (fun h1=>hJ' _ (fun h2=>?_));rw[dS]at h2;omega
 .intro J hJ;refine dM (fun h=>by cases h) (fun _=>dY (fun _=>rfl) (fun h1=>dY (fun _=>rfl) (fun h2=>dY (fun _=>rfl) (fun h3=>dY (fun _=>rfl) (fun h4=>hJ h1 h2 h3 h4)))))
end
end Go.Proofs.YthpnifigjfplbaaGreat.vc
