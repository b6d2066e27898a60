import Derived.Test.YthpnifigjfplbaaGreatQF38
import Derived.Test.YthpnifigjfplbaaGreatQF36
import Derived.Test.YthpnifigjfplbaaGreatQF32
import Derived.KernelRfl
set_option linter.unusedVariables false
set_option linter.unusedSimpArgs false
set_option linter.unusedSectionVars false
namespace Go.Proofs.YthpnifigjfplbaaGreat.vc
open Go Go.AX
section
variable {B:Int}{m m0 mm mm' u:Mem}{Q:Value->Mem->Prop}{M now:Int}{a1 a2 a3 ae:Option Addr}{n1 c1 n2 c2 n3 c3 ne ce:Nat}{σ : pm.St}{L:List pm.Ev}{E:Nat->Option AObj}
theorem AS(h:Bes E u mm)(hw:Wf u):Wf mm:=⟨by rw[h.fl,h.nx];exact hw.1,fun b hb=>by
 rw[h.get b];cases he:E b with
 | some o=>have:=(h.gap b o he).2;rw[h.nx]at hb;omega
 | none=>exact hw.2 b (by rw[<-h.nx];exact hb)⟩
theorem I2{α : Type}{enc:α->List Value}{b o:Nat}{x:α}(h:Bes E u mm)(hc:uA enc u b o x):uA enc mm b o x:=fun j v hv=>I4 h (hc j v hv)
theorem rt{α : Type}{enc:α->List Value}{s:Nat}{a:Option Addr}{n:Nat}{l:List α}(h:Bes E u mm)(ha:Arr enc s u a n l):Arr enc s mm a n l:=ha.imp fun _ _ _ _ hc=>I2 h hc
theorem KQ(h:Bes E u mm)(hσ : RdSt cx u M now a1 n1 a2 n2 a3 n3 c3 σ):RdSt cx mm M now a1 n1 a2 n2 a3 n3 c3 σ:=
 ⟨hσ.em,hσ.enow,let ⟨ss,a,b⟩:=hσ.servs;⟨ss,rt h a,b.imp fun _ _ r=>⟨r.id,r.s,r.sec,r.held,r.num,r.ran,let ⟨js,a,b⟩:=r.jobs;⟨js,rt h a,b.imp fun _ _ r=>⟨r.num,r.at_,r.done,rt h r.prog⟩⟩⟩⟩,
  let ⟨ls,a,b⟩:=hσ.sems;⟨ls,rt h a,b.imp fun _ _ r=>⟨r.most,r.holder,r.dead,rt h r.queue⟩⟩,rt h hσ.backs,⟨hσ.cut.1,by
   rcases hσ.cut.2 with e|⟨b,o,ob,e1,e2,e3⟩
   .exact .inl e
   .exact .inr ⟨b,o,ob,e1,h.got e2,wo h e3⟩⟩⟩
theorem OutS.bump{k:Nat}(h:OutS m0 u mm E ae ne ce L):OutS m0 (bump u k) (bump mm k) E ae ne ce L:=
 h.call (h.bes.bump k) ((Keep.refl h.wu).bump).wf ((Keep.refl h.wu).bump) ((Keep.refl h.wm).bump).wf
theorem OutS.len(h:OutS m0 u mm E ae ne ce L):L.length=ne:=by
 have:=h.out.1;rw[dm ft]at this;omega
theorem Ni{i n:Nat}(h:i<=n)(σ : pm.St):(pm.ku i σ).length<=(pm.ku n σ).length:=by
 obtain⟨r,rfl⟩:∃r,n=i+r:=⟨n-i,by omega⟩;rw[pm.xJ,List.length_append];omega
theorem Nv{n:Nat}(hw:Wf m)(hσ : RdSt cx m M now a1 n1 a2 n2 a3 n3 c3 σ)(hI:pm.Iv B σ)(hd:pm.Hd σ)(hn:σ.now+n<=4611686018427387904)(hE:(pm.ku n σ).length<=100000000)
  (hQ:∀m' now' b1 d1 b2 d2 b3 d3 ae ne ce,Keep m m'->RdSt cx m' M now' b1 n1 b2 n2 b3 n3 d3 (pm.dL n σ)->Arr encEv 4 m' ae ne (pm.ku n σ)->Q (.tuple #[.agg #[.int .i64 M,.int .i64 now',.slice b1 n1 d1,.slice b2 n2 d2,.slice b3 n3 d3],.slice ae ne ce,.int .i64 0]) m') :
  ah cx xq [.agg #[.int .i64 M,.int .i64 now,.slice a1 n1 c1,.slice a2 n2 c2,.slice a3 n3 c3],.int .i64 (n:Int)] m Q:=by
 apply EJ;unfold xr;have k0:Keep m (bump m 2):=(Keep.refl hw).bump;have en:=hσ.enow;have hn0:=hI.now1;refine dF (fun e=>absurd e (by omega)) (fun _=>?_);have e1:cZ .i64 4611686018427387904 now=4611686018427387904-now:=eF (by omega) (by omega);rw[e1];refine dF (fun e=>absurd e (by omega)) (fun _=>?_);have e2:bh .i64 now (n:Int)=now+n:=dI (by omega) (by omega);rw[e2];refine⟨fun a7 n7 c7 xc xc8 ac nc cc ac9 nc10 cc11 ac12 nc13 cc14 mm w=>∃(i:Nat)(u:Mem)(E:Nat->Option AObj),i<=n/\w=n-i/\xc=M/\nc=n1/\nc10=n2/\nc13=n3/\OutS m u mm E a7 n7 c7 (pm.ku i σ)/\RdSt cx u M xc8 ac n1 ac9 n2 ac12 n3 cc14 (pm.dL i σ),
  ⟨n,0,_,_,Nat.zero_le _,rfl,rfl,rfl,rfl,rfl,(OutS.begin hw).bump,hσ.keep hw k0⟩,?_⟩
 rintro a7 n7 c7 xc xc8 ac nc cc ac9 nc10 cc11 ac12 nc13 cc14 mm w ⟨i,u,E,hi,rfl,rfl,rfl,rfl,rfl,hO,hS⟩;have hIi:=(pm.rQ hI i).1;have hdi:=pm.yW hI hd i;have hnow:=pm.BY hI i (by omega);have hxc:xc8 = σ.now+i:=by rw[hS.enow,hnow]
 refine dF (fun hlt=>?_) (fun hge=>?_)
 .have hin:i<n:=by omega
  have hnlt:(pm.dL i σ).now<4611686018427387904:=by omega
  refine ah.mono (ah.beside dk hO.bes hO.wu (vF (Q:=fun r u'=>∃b1 d1 b2 d2 b3 d3 ae ne ce,r=(.tuple #[.agg #[.int .i64 xc,.int .i64 xc8,.slice b1 nc d1,.slice b2 nc10 d2,.slice b3 nc13 d3],.slice ae ne ce])/\Keep u u'/\RdSt cx u' xc xc8 b1 nc b2 nc10 b3 nc13 d3 (pm.settle (pm.dL i σ)).1/\Arr encEv 4 u' ae ne (pm.settle (pm.dL i σ)).2) hO.wu hS hIi fun u' b1 d1 b2 d2 b3 d3 ae ne ce k hR hA _=>⟨b1,d1,b2,d2,b3,d3,ae,ne,ce,rfl,k,hR,hA⟩)) ?_;rintro r m2 ⟨u2,hB2,hw2,b1,d1,b2,d2,b3,d3,as_,ns,cs,rfl,k2,hT,hTE⟩;refine⟨_,_,_,_,_,_,_,_,_,_,_,_,_,_,rfl,?_⟩;have hO2:=(hO.call hB2 hw2 k2 (AS hB2 hw2)).bump (k:=1);have kb:Keep u2 (bump u2 1):=(Keep.refl hw2).bump;obtain⟨q1,q2⟩:=pm.wQ hIi hnlt 0;have hev1:(pm.ku (i+1) σ)=(pm.ku i σ++(pm.settle (pm.dL i σ)).2)++pm.ku 1 (pm.settle (pm.dL i σ)).1:=by
   rw[pm.xJ,q2,List.append_assoc]
  have hpre:=Ni (show i+1<=n by omega) σ;have hb1:n7+ns<=100000000:=by
   have h1:=hO.len;have h2:=hTE.1;rw[hev1,List.length_append,List.length_append]at hpre;omega
  obtain⟨a9,c9,m3,u3,E3,hap,hO3,k3⟩:=hO2.app (ck:=cs) (hTE.keep hw2 kb) hb1;refine⟨_,_,_,m3,hap,?_⟩;obtain⟨hIT,hAT,hTm⟩:=pm.jJ hIi;have hdT:=pm.sW hdi;have hTT:=pm.nB hIi;have hTn:=pm.pN hIi;have k23:=kb.trans k3;have hT3:=hT.keep hw2 k23;have e3:cZ .i64 (now+(n:Int)) xc8=((n-i:Nat):Int):=by rw[eF (by omega) (by omega)];omega
  rw[e3];refine ah.mono (ah.beside dk hO3.bes hO3.wu (EK (Q:=fun r u'=>r=(.int .i64 (pm.still (pm.settle (pm.dL i σ)).1 ((n-i:Nat):Int)))/\Keep u3 u') hO3.wu hT3 hIT hdT fun u' k=>⟨rfl,k⟩)) ?_;rintro r m4 ⟨u4,hB4,hw4,rfl,k4⟩;refine⟨_,rfl,?_⟩;have hO4:=hO3.call hB4 hw4 k4 (AS hB4 hw4);have hT4:=hT3.keep hO3.wu k4;refine dF (fun hpos=>?_) (fun hzero=>?_)
  ·
   obtain⟨kk,hkk⟩:∃kk:Nat,(kk:Int)=pm.still (pm.settle (pm.dL i σ)).1 ((n-i:Nat):Int):=⟨(pm.still (pm.settle (pm.dL i σ)).1 ((n-i:Nat):Int)).toNat,by omega⟩;rw[<-hkk]at hpos ⊢;obtain⟨hkn,hlast⟩:=pm.D3 (k:=(kk:Int)) (by omega) (by rw[hkk];exact Int.le_refl _);have hkn':kk<=n-i:=by omega
   have hnk:(pm.settle (pm.dL i σ)).1.now+kk<=4611686018427387904:=by rw[hTn];omega
   obtain⟨t1,t2⟩:=pm.pP kk (by omega) hIT hdT hAT hTT hlast hnk;obtain⟨k',rfl⟩:∃k',kk=k'+1:=⟨kk-1,by omega⟩;obtain⟨r1,r2⟩:=pm.wQ hIi hnlt k';have hst:pm.dL (i+(k'+1)) σ = pm.skip (pm.settle (pm.dL i σ)).1 ((k'+1:Nat):Int):=by rw[pm.wP,<-r1,t1]
   have hevs:pm.ku (i+(k'+1)) σ = pm.ku i σ++(pm.settle (pm.dL i σ)).2:=by rw[pm.xJ,r2,t2,List.append_nil]
   refine ah.mono (ah.beside dk hO4.bes hO4.wu (Gf (c1:=d1) (c2:=d2) (Q:=fun r u'=>∃now' b1 d1' b3 d3',r=(.agg #[.int .i64 xc,.int .i64 now',.slice b1 nc d1',.slice b2 nc10 d2,.slice b3 nc13 d3'])/\Keep u4 u'/\RdSt cx u' xc now' b1 nc b2 nc10 b3 nc13 d3' (pm.skip (pm.settle (pm.dL i σ)).1 ((k'+1:Nat):Int))) hO4.wu hT4 hIT hdT hnk fun u' now' b1 d1 b3 d3 k hR=>⟨now',b1,d1,b3,d3,rfl,k,hR⟩)) ?_;rintro r m5 ⟨u5,hB5,hw5,now5,s1,t1',s3,t3,rfl,k5,hR5⟩;refine⟨_,_,_,_,_,_,_,_,_,_,_,rfl,n-(i+(k'+1)),by omega,i+(k'+1),u5,E3,by omega,rfl,rfl,rfl,rfl,rfl,?_,?_⟩
   .rw[hevs];exact hO4.call hB5 hw5 k5 (AS hB5 hw5)
   .rw[hst];exact hR5
  ·
   refine ah.mono (ah.beside dk hO4.bes hO4.wu (Gg (c1:=d1) (c2:=d2) (Q:=fun r u'=>∃now' b1 d1 b2 d2 b3 d3 ae ne ce,r=(.tuple #[.agg #[.int .i64 xc,.int .i64 now',.slice b1 nc d1,.slice b2 nc10 d2,.slice b3 nc13 d3],.slice ae ne ce,.int .i64 (pm.tick (pm.settle (pm.dL i σ)).1).2.2])/\Keep u4 u'/\RdSt cx u' xc now' b1 nc b2 nc10 b3 nc13 d3 (pm.tick (pm.settle (pm.dL i σ)).1).1/\Arr encEv 4 u' ae ne (pm.tick (pm.settle (pm.dL i σ)).1).2.1) hO4.wu hT4 hIT fun u' now' b1 d1 b2 d2 b3 d3 ae ne ce k hR hA _=>⟨now',b1,d1,b2,d2,b3,d3,ae,ne,ce,rfl,k,hR,hA⟩)) ?_;rintro r m6 ⟨u6,hB6,hw6,now6,s1,t1,s2,t2,s3,t3,av,nv,cv,rfl,k6,hR6,hE6⟩;refine⟨_,_,_,_,_,_,_,_,_,_,_,_,_,_,_,rfl,?_⟩;have hO6:=hO4.call hB6 hw6 k6 (AS hB6 hw6);have hb2:n7+ns+nv<=100000000:=by
    have h1:=hO.len;have h2:=hTE.1;have h3:=hE6.1;have h4:pm.ku 1 (pm.settle (pm.dL i σ)).1=(pm.tick (pm.settle (pm.dL i σ)).1).2.1:=by
     show []++_=_;rfl
    rw[hev1,h4,List.length_append,List.length_append]at hpre;omega
   obtain⟨a10,c10,m7,u7,E7,hap7,hO7,k7⟩:=hO6.app (ck:=cv) hE6 hb2;refine⟨_,_,_,m7,hap7,n-(i+1),by omega,i+1,u7,E7,by omega,rfl,rfl,rfl,rfl,rfl,?_,?_⟩
   .rw[hev1];exact hO7
   .have:pm.dL (i+1) σ = (pm.tick (pm.settle (pm.dL i σ)).1).1:=(pm.yl hIi hnlt).1;rw[this];exact hR6.keep hw6 k7
 .have ei:i=n:=by omega
  subst ei;exact hQ mm xc8 ac cc ac9 cc11 ac12 cc14 a7 n7 c7 hO.keep (KQ hO.bes hS) (Arr.of_grow ft (by omega) hO.out)
end
end Go.Proofs.YthpnifigjfplbaaGreat.vc
namespace Go.Proofs.YthpnifigjfplbaaGreat.vc
open Go Go.AX
section
variable {B:Int}{m0 m:Mem}{lam:Nat->Lb}{Q:Value->Mem->Prop}{M now:Int}{a1 a2 a3:Option Addr}{n1 c1 n2 c2 n3 c3:Nat}{ss:List SV}{js:Nat->List JV}{ls:List LV}{qs:Nat->List Int}{σ : pm.St}
end
end Go.Proofs.YthpnifigjfplbaaGreat.vc
namespace Go.Proofs.YthpnifigjfplbaaGreat.vc
open Go Go.AX
section
variable {B:Int}{m0 m:Mem}{lam:Nat->Lb}{wj wq:Nat->Kd}{Q:Value->Mem->Prop}{M now:Int}{a1 a2 a3 ae:Option Addr}{n1 c1 n2 c2 n3 c3 ne ce:Nat}{ss:List SV}{js:Nat->List JV}{ls:List LV}{qs:Nat->List Int}{σ : pm.St}{E:List pm.Ev}
theorem L6{i:Nat}(hO:Ow TT (fun _=>.own true) (fun _=>.own true) m0 m lam a1 n1 c1 a2 n2 c2 a3 n3 c3 ss js ls qs σ)(hi:i<n3)
  (h:∀m',Wf m'->Fr m m' (blk a3)->Arr encB 2 m' a3 (n3-1) (σ.backs.eraseIdx i)->Cut cx m' a3 (n3-1) c3 2->Q (.slice a3 (n3-1) c3) m') :
  ah cx gN [.slice a3 n3 c3,.int .i64 (i:Int),.int .i64 ((i+1:Nat):Int)] m Q:=by
 apply nP;unfold kg;have hw:=hO.keep.wf;have hfl0:m.fl<=m0.nx:=by have:=hO.keep.fl;have:=hO.fl0;omega
 have hLlen:(σ.backs.flatMap encB).length=n3*2:=by rw[dm fA,hO.s3n]
 have hone:(σ.backs.flatMap encB).all one1=true:=wT wU σ.backs;have h1:=hO.s3.own;have hss:=hO.s3n;generalize σ.backs=ss at *;have hdel:(ss.eraseIdx i).flatMap encB=(ss.flatMap encB).take (i*2)++(ss.flatMap encB).drop ((i+1)*2):=by
  have e:ss.flatMap encB=(ss.take i).flatMap encB++(ss.drop i).flatMap encB:=by rw[<-List.flatMap_append,List.take_append_drop]
  have e':ss.flatMap encB=(ss.take (i+1)).flatMap encB++(ss.drop (i+1)).flatMap encB:=by rw[<-List.flatMap_append,List.take_append_drop]
  have hl:((ss.take i).flatMap encB).length=i*2:=by rw[dm fA,List.length_take,hss];congr 1;omega
  have hl':((ss.take (i+1)).flatMap encB).length=(i+1)*2:=by rw[dm fA,List.length_take,hss];congr 1;omega
  have t1:(ss.flatMap encB).take (i*2)=(ss.take i).flatMap encB:=by rw[e,<-hl,List.take_left]
  have t2:(ss.flatMap encB).drop ((i+1)*2)=(ss.drop (i+1)).flatMap encB:=by rw[e',<-hl',List.drop_left]
  rw[t1,t2,List.eraseIdx_eq_take_drop_succ,List.flatMap_append]
 generalize hLL:ss.flatMap encB=L at h1;rw[hLL]at hLlen hone hdel;cases h1 with
 | nil=>omega
 | empty b cc h2 h3=>omega
 | row b n l h0 h2 h3=>
  obtain⟨⟨x1,x2,x3,d1⟩,d2,d3,m1,d4,d5,m2,Z,d6,d7,d8,d9,d10⟩:=Ka (cx:=cx) (t:=cm) (e:=da) (s:=2) (i:=i) (by kernel_rfl) (by kernel_rfl) hw h3 hLlen hi (by omega) hone;refine⟨x1,x2,x3,d1,?_⟩;refine iY (fun e=>by omega) (fun _=>?_);refine⟨_,_,_,d2,_,_,_,d3,_,_,_,m1,d4,_,_,_,d5,m2,d6,?_⟩;have hn:i+(n3-(i+1))=n3-1:=by omega
  rw[hn];refine h m2 ⟨by have:=hw.1;omega,fun b' hb'=>?_⟩ ⟨by omega,d10,fun b' hb' hn'=>d8 b' (by simpa [blk]using hn')⟩ ?_ ⟨by omega,.inr ?_⟩
  .have hbn:b≠b':=fun e=>by have:=hw.row h3;omega
   rw[d8 b' (fun e=>hbn e.symm)];exact hw.2 b' (by omega)
  .refine⟨by rw[List.length_eraseIdx,if_pos (by omega)];omega,fun j x hx=>⟨b,0,rfl,fun k v hv=>?_⟩⟩;have hk:k<2:=by rw[<-fA x];exact(List.getElem?_eq_some_iff.1 hv).1
   have hj:j<n3-1:=by
    have:=(List.getElem?_eq_some_iff.1 hx).1;rw[List.length_eraseIdx,if_pos (by omega)]at this;omega
   rw[<-hdel]at d7;rw[d7.rd,List.getElem?_append_left (by rw[dm fA,List.length_eraseIdx,if_pos (by omega)];omega),Nat.zero_add,flat_get fA hx hk,hv]
  .obtain⟨tr,hg,_⟩:=id d7;exact⟨b,0,_,rfl,hg,d7.sameSize jx⟩
theorem IR{id:Int}{on:Bool}(hw:Wf m)(hσ : RdSt cx m M now a1 n1 a2 n2 a3 n3 c3 σ)(hI:pm.Iv B σ)
  (h:∀m' b1 d1 b2 d2 b3 n3' d3,Keep m m'->RdSt cx m' M now b1 n1 b2 n2 b3 n3' d3 (pm.gG σ id on).1->Q (.tuple #[.agg #[.int .i64 M,.int .i64 now,.slice b1 n1 d1,.slice b2 n2 d2,.slice b3 n3' d3],.int .i64 (pm.gG σ id on).2]) m') :
  ah cx pE [.agg #[.int .i64 M,.int .i64 now,.slice a1 n1 c1,.slice a2 n2 c2,.slice a3 n3 c3],.int .i64 id,.bool on] m Q:=by
 apply xS;unfold ul;have k0:Keep m (bump m 2):=(Keep.refl hw).bump;have hz3:=hI.len3;have hl3:=hσ.len3;refine L8 k0.wf (hσ.keep hw k0) (by omega) fun m1 k1=>⟨_,rfl,?_⟩
 have k01:=k0.trans k1;have same:∀e,pm.gG σ id on=(σ,e)->Q (.tuple #[.agg #[.int .i64 M,.int .i64 now,.slice a1 n1 c1,.slice a2 n2 c2,.slice a3 n3 c3],.int .i64 e]) m1:=fun e he=>by
  rw[he]at h;exact h m1 a1 c1 a2 c2 a3 n3 c3 k01 (hσ.keep hw k01)
 have hbk:∀i,pm.back σ.backs id=some i->i<n3:=fun i hi=>by
  unfold pm.back at hi;have:=(List.findIdx?_eq_some_iff_findIdx_eq.1 hi).1;omega
 refine dW (fun f:Bool->Mem->Prop=>∀b,b=(cQ id 1 || cQ 255 id)->f b m1) ?_ ?_
 .rintro b rfl;refine cO (fun h1=>same _ (by unfold pm.gG;rw[h1];rfl)) (fun h1=>?_);refine dW (fun f:Bool->Mem->Prop=>∀b,b=(on&&(pm.back σ.backs id).isSome)->f b m1) ?_ ?_
  .rintro b rfl;refine cO (fun h2=>?_) (fun h2=>?_)
   .simp only[Bool.and_eq_true]at h2;obtain⟨rfl,h2⟩:=h2;obtain⟨i,hi⟩:=Option.isSome_iff_exists.1 h2;exact same _ (by unfold pm.gG;rw[h1,hi];rfl)
   refine dW (fun f:Bool->Mem->Prop=>∀b,b=(on&&leI 16 (am n3))->f b m1) ?_ ?_
   .rintro b rfl;refine cO (fun h3=>?_) (fun h3=>?_)
    .simp only[Bool.and_eq_true]at h3;obtain⟨rfl,h3⟩:=h3;rw[Bool.true_and]at h2;have hb:pm.back σ.backs id=none:=Option.not_isSome_iff_eq_none.1 (by rw[h2];simp);exact same _ (by unfold pm.gG;rw[h1,hb];simp only[hl3,h3];rfl)
    refine dW (fun f:Bool->Mem->Prop=>∀b,b=(!on&&!(pm.back σ.backs id).isSome)->f b m1) ?_ ?_
    .rintro b rfl;refine cO (fun h4=>?_) (fun h4=>?_)
     .simp only[Bool.and_eq_true,Bool.not_eq_true']at h4;obtain⟨rfl,h4⟩:=h4;have hb:pm.back σ.backs id=none:=Option.not_isSome_iff_eq_none.1 (by rw[h4];simp);exact same _ (by unfold pm.gG;rw[h1,hb];rfl)
     refine EC k01.wf (hσ.keep hw k01) (zj hI.toIw) fun m4 lam b1 d1 b2 d2 b3 d3 ss js ls qs hO=>⟨_,_,_,_,_,_,_,_,_,_,_,rfl,?_⟩
     have hO:=hO.old0 hw k01;have hblt:=hO.s3.lt hO.keep.wf;cases on with
     | true=>
      rw[Bool.true_and]at h2 h3;have hb:pm.back σ.backs id=none:=Option.not_isSome_iff_eq_none.1 (by rw[h2];simp);have eg:pm.gG σ id true=({ σ with backs:=σ.backs++[⟨id,0⟩] },0):=by
       unfold pm.gG;rw[h1,hb];simp only[hl3,h3];rfl
      rw[eg]at h;rw[fg,cP];have k5:Keep m4 (newO m4 (row [.int .i64 id,.int .i64 0] da false)):=(Keep.refl hO.keep.wf).newO;have hR:Row (newO m4 (row [.int .i64 id,.int .i64 0] da false)) m4.nx [.int .i64 id,.int .i64 0] da false:=Row.newO;generalize newO m4 (row [.int .i64 id,.int .i64 0] da false)=m5 at k5 hR;have hO5:=hO.then k5;obtain⟨m6,q1,q2,q3,q4,q5⟩:=Du (cx:=cx) (t:=cm) (e:=da) (s:=2) (vs:=[.int .i64 id,.int .i64 0]) (by kernel_rfl) k5.wf (by have:=hO5.keep.fl;have:=hO5.fl0;omega) hO5.s3.own (by rw[dm fA,hO.s3n]) (hR.first1 rfl) rfl rfl (by omega);refine⟨_,_,_,m6,q1,?_⟩;obtain⟨r1,r2⟩:=hO5.apartB q3 (fun b hb=>hO.s3l b hb);have kk:Keep m m6:=Keep.of_fr hO5.keep q2 q3 (fun b hb=>(hblt b hb).1);have e1:σ.backs.flatMap encB++[.int .i64 id,.int .i64 0]=(σ.backs++[(⟨id,0⟩:pm.Back)]).flatMap encB:=by rw[List.flatMap_append];rfl
      rw[e1]at q5;have hA:=Arr.of_row fA q5;rw[List.length_append,hO.s3n]at hA;have q5':=q5;obtain⟨tr,hg,_⟩:=q5';exact h m6 _ _ _ _ _ _ _ kk ⟨hσ.em,hσ.enow,r1,r2,hA,⟨Nat.le_refl _,.inr ⟨_,_,_,rfl,hg,q5.sameSize jx⟩⟩⟩
     | false=>
      have hb:∃i,pm.back σ.backs id=some i:=by
       cases hb:pm.back σ.backs id with
       | none=>rw[hb]at h4;simp at h4
       | some i=>exact⟨i,rfl⟩
      obtain⟨i,hi⟩:=hb;have hin:=hbk i hi;have eg:pm.gG σ id false=({ σ with backs:=σ.backs.eraseIdx i },0):=by
       unfold pm.gG;rw[h1,hi];rfl
      rw[eg]at h;rw[fM,hi];have ei:bh .i64 ((i:Nat):Int) 1=((i+1:Nat):Int):=by rw[dI (by omega) (by omega)];omega
      simp only[ei];refine L6 hO hin fun m6 hw6 f6 hA6 hC6=>⟨_,_,_,rfl,?_⟩
      obtain⟨r1,r2⟩:=hO.apartB f6 (fun b hb=>hO.s3l b hb);have kk:Keep m m6:=Keep.of_fr hO.keep hw6 f6 (fun b hb=>(hblt b hb).1);exact h m6 _ _ _ _ _ _ _ kk ⟨hσ.em,hσ.enow,r1,r2,hA6,hC6⟩
    .intro J hJ;refine cO (fun h4=>hJ _ ?_) (fun h4=>hJ _ (by have h4:(!on)=false:=h4;rw[h4];rfl));have h4:(!on)=true:=h4;rw[h4,Bool.true_and];cases hb:pm.back σ.backs id with
     | none=>simp[gj]
     | some i=>simp[dJ]
   .intro J hJ;exact cO (fun h4=>hJ _ (by rw[h4,Bool.true_and])) (fun h4=>hJ _ (by rw[h4];rfl))
  .intro J hJ;refine cO (fun h4=>hJ _ ?_) (fun h4=>hJ _ (by rw[h4];rfl));rw[h4,Bool.true_and];cases hb:pm.back σ.backs id with
   | none=>simp[nW]
   | some i=>simp[fU]
 .intro J hJ;exact cO (fun h1=>hJ _ (by rw[h1];rfl)) (fun h1=>hJ _ (by rw[h1];rfl))
end
end Go.Proofs.YthpnifigjfplbaaGreat.vc
namespace Go.Proofs.YthpnifigjfplbaaGreat.vc
open Go Go.AX
section
variable {B:Int}{m0 m:Mem}{lam:Nat->Lb}{wj wq:Nat->Kd}{Q:Value->Mem->Prop}{M now:Int}{a1 a2 a3 ae:Option Addr}{n1 c1 n2 c2 n3 c3 ne ce:Nat}{ss:List SV}{js:Nat->List JV}{ls:List LV}{qs:Nat->List Int}{σ : pm.St}{E:List pm.Ev}
end
end Go.Proofs.YthpnifigjfplbaaGreat.vc
namespace Go.Proofs.YthpnifigjfplbaaGreat.vc
open Go Go.AX
set_option maxRecDepth 100000
noncomputable section
def oA(r q:Option Addr)(d s p t:Nat)(m:Mem)(Q:Value->Mem->Prop):Prop:=
 splitB (dY (am d) (am p)) (Q (.bool false) m) (∃c:Int->Mem->Nat->Prop,(∃o:Nat,c 0 m o)/\∀a b e,c a b e->splitB (cQ a (am d)) ((0<=a/\a<((d:Nat):Int))/\(db r fun k j=>∃g,rd (bump b 9) k (j+Int.toNat a*1)=some (.int .i64 g)/\(0<=a/\a<((p:Nat):Int))/\(db q fun l n=>∃f,rd (bump b 9) l (n+Int.toNat a*1)=some (.int .i64 f)/\splitB (dY g f) (Q (.bool false) (bump b 9)) (∃i:Nat,i<e/\c (bh .i64 a 1) (bump b 9) i)))) (Q (.bool true) b))
theorem sG{r q:Option Addr}{d s p t:Nat}{m:Mem}{Q:Value->Mem->Prop}(h:oA r q d s p t m Q):ah cx kG [.slice r d s,.slice q p t] m Q:=
 ah.of (fn:=Tryz.f38) (LS:=[]) (ann:=[none,none,none,none,none,none,some ⟨[0,1,12],[(13,.int .i64)],[],[],[],0⟩]) dk dh (by kernel_rfl) (by kernel_rfl) (Eq.mp (by kernel_rfl) h)
end
end Go.Proofs.YthpnifigjfplbaaGreat.vc
namespace Go.Proofs.YthpnifigjfplbaaGreat.vc
open Go Go.AX
section
variable {B:Int}{m:Mem}{Q:Value->Mem->Prop}{M now:Int}{a a' a1 a2 a3 b1 b2 b3:Option Addr}{n n' c c' n1 c1 n2 c2 n3 c3 n4 n5 n6 d1 d2 d3:Nat}{σ : pm.St}
theorem Mq{x:Int}(hw:Wf m)(h:∀m',Keep m m'->Q (.bool (pm.qC x)) m'):ah cx nD [.int .i64 x] m Q:=by
 apply zw;unfold vY;refine cO (fun h1=>?_) (fun h1=>?_)
 .exact dC h (Keep.refl hw) (by unfold pm.qC;rw[h1];rfl)
 .exact dC h (Keep.refl hw) (by unfold pm.qC;rw[h1];rfl)
theorem Mr{l:List Int}(hw:Wf m)(ha:Arr encI 1 m a n l)(hn:n<=4611686018427387904)
  (h:∀m',Keep m m'->Q (.int .i64 (match l.findIdx? pm.qC with|some i=>(i:Int)|none=>-1)) m'):ah cx ir [.slice a n c,.func (.func nD) #[] #[]] m Q:=by
 apply pd;unfold kQ;refine tq hn (fun k mm=>Keep m mm/\∀x∈l.take k,pm.qC x=false) ⟨Keep.refl hw,by simp⟩ ?_;rintro k m1 hk ⟨k1,hno⟩ I w hI;refine dN (fun hlt=>?_) (fun hge=>?_)
 .obtain⟨x,hx⟩:∃x,l[k]? = some x:=⟨_,List.getElem?_eq_getElem (by rw[ha.1];exact hlt)⟩;have hkl:=(List.getElem?_eq_some_iff.1 hx).1;refine(ha.keep hw k1).open (k:=k) hx fun b o hc=>⟨_,hc 0 _ rfl,?_⟩
  refine Mq k1.wf fun m2 k2=>⟨_,rfl,?_⟩
  refine cO (fun ht=>?_) (fun ht=>?_)
  .have e:l.findIdx? pm.qC=some k:=by
    rw[List.findIdx?_eq_some_iff_getElem];refine⟨hkl,by rw[<-(List.getElem?_eq_some_iff.1 hx).2]at ht;exact ht,fun j hj=>?_⟩;have:=hno l[j] (List.mem_of_getElem? (i:=j) (by rw[List.getElem?_take,if_pos hj,List.getElem?_eq_getElem (by omega)]));rw[this];simp
   have:=h m2 (k1.trans k2);rw[e]at this;exact this
  .refine hI m2 hlt ⟨k1.trans k2,fun y hy=>?_⟩;rw[List.take_add_one,hx]at hy;rcases List.mem_append.1 hy with hy|hy
   .exact hno y hy
   .simp at hy;subst hy;exact ht
 .have e:l.findIdx? pm.qC=none:=by
   rw[List.findIdx?_eq_none_iff];intro y hy;rw[<-List.take_of_length_le (l:=l) (i:=k) (by rw[ha.1];exact hge)]at hy;exact hno y hy
  have:=h m1 k1;rw[e]at this;exact this
theorem rY{α β γ : Type}{R:α->β->Prop}{f:γ->α}{g:γ->β}(h:∀x,R (f x) (g x)):∀l:List γ,All2 R (l.map f) (l.map g)
 | []=>.nil
 | x::r=>.cons (h x) (rY h r)
theorem zO{cpus:Int}{most:List Int}(hw:Wf m)(ha:Arr encI 1 m a n most)
  (h0:∀m',Keep m m'->(pm.new cpus most).2≠0->pm.new cpus most=(⟨0,0,[],[],[]⟩,1)->Q (.tuple #[.agg #[.int .i64 0,.int .i64 0,.slice none 0 0,.slice none 0 0,.slice none 0 0],.int .i64 1]) m')
  (h1:∀m' b2 d2,Keep m m'->(pm.new cpus most).2=0->RdSt cx m' cpus 0 none 0 b2 n none 0 0 (pm.new cpus most).1->Q (.tuple #[.agg #[.int .i64 cpus,.int .i64 0,.slice none 0 0,.slice b2 n d2,.slice none 0 0],.int .i64 0]) m') :
  ah cx tQ [.int .i64 cpus,.slice a n c] m Q:=by
 apply BG;unfold yL;have hlm:most.length=n:=ha.1;have en:pm.new cpus most=bif (cQ cpus 1 || (cQ 64 cpus || (cQ 8 (am n) || most.any pm.qC))) then (⟨0,0,[],[],[]⟩,1) else (⟨cpus,0,[],most.map fun n=>⟨n,0,[],false⟩,[]⟩,0):=by unfold pm.new;rw[hlm]
 refine dW (fun f:Bool->Mem->Prop=>∀b mm,Keep m mm->b=(cQ cpus 1 || (cQ 64 cpus || (cQ 8 (am n) || most.any pm.qC)))->f b mm) ?_ ?_
 .rintro b mm k rfl;refine cO (fun hb=>?_) (fun hb=>?_)
  .rw[hb,cond_true]at en;exact h0 mm k (by rw[en];simp) en
  .rw[hb,cond_false]at en;rw[en]at h1;simp only[Bool.or_eq_false_iff,dJ,pm.gf]at hb;have hn8:n<=8:=by have:=hb.2.2.1;unfold am at this;omega
   refine⟨fun x31 xc xc1 ac nc cc a2 n2 c2 a5 n5 c5 m2 w=>∃k:Nat,x31=(k:Int)/\k<=n/\w=n-k/\xc=cpus/\xc1=0/\ac=none/\nc=0/\cc=0/\a5=none/\n5=0/\c5=0/\n2=k/\Acc m m2 a2 n2 c2 4 ji (((most.take k).map fun x=>(⟨x,0,none,0,0,false⟩:LV)).flatMap encL),⟨n,0,rfl,Nat.zero_le _,rfl,rfl,rfl,rfl,rfl,rfl,rfl,rfl,rfl,rfl,by simpa using Acc.nil k.bump _ _⟩,?_⟩;rintro x31 xc xc1 ac nc cc a2 n2 c2 a5 n5 c5 m2 w ⟨k',rfl,hk,rfl,rfl,rfl,rfl,rfl,rfl,rfl,rfl,rfl,rfl,hacc⟩;refine dN (fun hlt=>?_) (fun hge=>?_)
   .obtain⟨x,hx⟩:∃x,most[n2]? = some x:=⟨_,List.getElem?_eq_getElem (by omega)⟩;refine(ha.keep hw hacc.keep).open (k:=n2) hx fun b o hc=>⟨_,hc 0 _ rfl,?_⟩
    rw[cP];obtain⟨m4,q1,q2,q3,q4,q5⟩:=hacc.push (cx:=cx) (t:=iB) (vs:=encL ⟨x,0,none,0,0,false⟩) (by kernel_rfl) rfl rfl (by omega);refine⟨_,_,_,m4,q1,n-(n2+1),by omega,n2+1,?_,by omega,rfl,rfl,rfl,rfl,rfl,rfl,rfl,rfl,rfl,rfl,?_⟩
    .rw[dI (by omega) (by omega)];rfl
    .have e:((most.take (n2+1)).map fun x=>(⟨x,0,none,0,0,false⟩:LV)).flatMap encL=((most.take n2).map fun x=>(⟨x,0,none,0,0,false⟩:LV)).flatMap encL++encL ⟨x,0,none,0,0,false⟩:=by
      rw[List.take_add_one,hx];simp
     rw[e];exact q2
   .obtain rfl:n2=n:=by omega
    have htk:most.take n2=most:=List.take_of_length_le (by omega);rw[htk]at hacc;refine h1 m2 a2 c2 hacc.keep rfl ⟨rfl,rfl,⟨[],iZ.nil,.nil⟩,⟨_,hacc.arr nL (by omega),?_⟩,iZ.nil,Nat.le_refl _,.inl rfl⟩;exact rY (fun x=>⟨rfl,rfl,rfl,iZ.nil⟩) most
 .intro J hJ;have k1:Keep m (bump m 1):=(Keep.refl hw).bump;refine cO (fun h1=>hJ _ _ k1 (by rw[h1];rfl)) (fun h1=>?_);refine cO (fun h2=>hJ _ _ k1 (by rw[h1,h2];rfl)) (fun h2=>?_);refine cO (fun h3=>hJ _ _ k1 (by rw[h1,h2,h3];rfl)) (fun h3=>?_);apply ny;unfold jS;have hn8:n<=8:=by rw[dJ]at h3;unfold am at h3;omega
  refine Mr k1.wf (ha.keep hw k1) (by omega) fun m2 k2=>⟨_,rfl,_,rfl,hJ _ _ (k1.trans k2) ?_⟩
  rw[h1,h2,h3,Bool.false_or,Bool.false_or,Bool.false_or];exact BD
end
end Go.Proofs.YthpnifigjfplbaaGreat.vc
namespace Go.Proofs.YthpnifigjfplbaaGreat.vc
open Go Go.AX
set_option maxRecDepth 100000
noncomputable section
def qF (x0:Int) (x1:Int) (x2:Int) (m:Mem) (Q:Value→Mem→Prop):Prop:=
 (ah cx ka [] m fun r21 m1=>(∃ (b21:Bool),r21=(.bool (b21))∧(splitB (!(b21))
 (Q (.bool (false)) m1)
 (dV (fun (m2:Mem)=>(ah cx tQ [.int .i64 (x0),.slice none (0) (0)] m2 fun r47 m3=>(∃ (x47:Int),(∃ (x47_1:Int),(∃ (a47:Option Addr) (n47 c47:Nat),(∃ (a47_2:Option Addr) (n47_3 c47_4:Nat),(∃ (a47_5:Option Addr) (n47_6 c47_7:Nat),(∃ (x47_8:Int),r47=(.tuple #[.agg #[.int .i64 (x47),.int .i64 (x47_1),.slice a47 (n47) (c47),.slice a47_2 (n47_3) (c47_4),.slice a47_5 (n47_6) (c47_7)],.int .i64 (x47_8)])∧(∃ Inv:Int→Int→Int→Option Addr→Nat→Nat→Option Addr→Nat→Nat→Option Addr→Nat→Nat→Mem→Nat→Prop,(∃ n:Nat,Inv (0:Int) (x47) (x47_1) a47 (n47) (c47) a47_2 (n47_3) (c47_4) a47_5 (n47_6) (c47_7) (bump m3 1) n) ∧
 (∀ (x9:Int) (xc:Int) (xc_9:Int) (ac:Option Addr) (nc cc:Nat) (ac_10:Option Addr) (nc_11 cc_12:Nat) (ac_13:Option Addr) (nc_14 cc_15:Nat),∀ (m4:Mem) (n_16:Nat),Inv (x9) (xc) (xc_9) ac (nc) (cc) ac_10 (nc_11) (cc_12) ac_13 (nc_14) (cc_15) m4 n_16 →
 (splitB (cQ (x9) (x1))
 (ah cx pE [.agg #[.int .i64 (xc),.int .i64 (xc_9),.slice ac (nc) (cc),.slice ac_10 (nc_11) (cc_12),.slice ac_13 (nc_14) (cc_15)],.int .i64 (bh .i64 (x9) (1:Int)),.bool (true)] m4 fun r59 m5=>(∃ (x59:Int),(∃ (x59_17:Int),(∃ (a59:Option Addr) (n59 c59:Nat),(∃ (a59_18:Option Addr) (n59_19 c59_20:Nat),(∃ (a59_21:Option Addr) (n59_22 c59_23:Nat),(∃ (x59_24:Int),r59=(.tuple #[.agg #[.int .i64 (x59),.int .i64 (x59_17),.slice a59 (n59) (c59),.slice a59_18 (n59_19) (c59_20),.slice a59_21 (n59_22) (c59_23)],.int .i64 (x59_24)])∧(∃ n_25:Nat,n_25 < n_16∧Inv (bh .i64 (x9) (1:Int)) (x59) (x59_17) a59 (n59) (c59) a59_18 (n59_19) (c59_20) a59_21 (n59_22) (c59_23) m5 n_25))))))))
 (ah cx xq [.agg #[.int .i64 (xc),.int .i64 (xc_9),.slice ac (nc) (cc),.slice ac_10 (nc_11) (cc_12),.slice ac_13 (nc_14) (cc_15)],.int .i64 (x2)] m4 fun r65 m6=>(∃ (x65:Int),(∃ (x65_26:Int),(∃ (a65:Option Addr) (n65 c65:Nat),(∃ (a65_27:Option Addr) (n65_28 c65_29:Nat),(∃ (a65_30:Option Addr) (n65_31 c65_32:Nat),(∃ (a65_33:Option Addr) (n65_34 c65_35:Nat),(∃ (x65_36:Int),r65=(.tuple #[.agg #[.int .i64 (x65),.int .i64 (x65_26),.slice a65 (n65) (c65),.slice a65_27 (n65_28) (c65_29),.slice a65_30 (n65_31) (c65_32)],.slice a65_33 (n65_34) (c65_35),.int .i64 (x65_36)])∧(dV (fun (m7:Mem)=>(ah cx sD [.agg #[.int .i64 (xc),.int .i64 (xc_9),.slice ac (nc) (cc),.slice ac_10 (nc_11) (cc_12),.slice ac_13 (nc_14) (cc_15)]] m7 fun r95 m8=>(∃ (x95:Int),(∃ (b95:Bool),r95=(.tuple #[.int .i64 (x95),.bool (b95)])∧(∃ Inv_38:Int→Int→Int→Int→Mem→Nat→Prop,(∃ n_39:Nat,Inv_38 (0:Int) (4611686018427387904:Int) (0:Int) (0:Int) m8 n_39) ∧
 (∀ (x15:Int) (x16:Int) (x17:Int) (x18:Int),∀ (m9:Mem) (n_40:Nat),Inv_38 (x15) (x16) (x17) (x18) m9 n_40 →
 (splitB (cQ (x18) (x1))
 ((0≤(x18)∧(x18) < ((n65_31:Nat):Int))∧(db a65_30 fun ba65_30 oa65_30=>(∃ (x108:Int),rd m9 ba65_30 (oa65_30+Int.toNat (x18)*2+1)=some (.int .i64 (x108))∧(dV (fun (x16_42:Int) (m10:Mem)=>(splitB (cQ (x17) (x108))
 (∃ n_43:Nat,n_43 < n_40∧Inv_38 (bh .i64 (x15) (x108)) (x16_42) (x108) (bh .i64 (x18) (1:Int)) m10 n_43)
 (∃ n_44:Nat,n_44 < n_40∧Inv_38 (bh .i64 (x15) (x108)) (x16_42) (x17) (bh .i64 (x18) (1:Int)) m10 n_44))) fun J_41=>
 (splitB (cQ (x108) (x16))
 (J_41 (x108) m9)
 (J_41 (x16) m9))))))
 (dV (fun (x20:Int) (m11:Mem)=>(splitB (!(b95)) (splitB (cT (x15) (io .i64 (x2) (x20))) (splitB (cT (x1) (0:Int)) (Q (.bool (true)) m11) (Q (.bool (leI (cZ .i64 (x17) (x16)) (1:Int))) m11)) (Q (.bool (false)) m11)) (Q (.bool (false)) m11))) fun J_45=>
 (splitB (cQ (x1) (x0))
 (J_45 (x1) m9)
 (J_45 (x0) m9)))))))))) fun J_37=>
 (splitB (dY (x47_8) (0:Int)) (Q (.bool (false)) (bump m6 1)) (splitB (dY (x65_36) (0:Int)) (Q (.bool (false)) (bump m6 1)) (splitB (dY (am (n65_34)) (0:Int)) (Q (.bool (false)) (bump m6 1)) (splitB (dY (x65_26) (x2)) (Q (.bool (false)) (bump m6 1)) (splitB (dY (am (n65_31)) (x1))
 (Q (.bool (false)) (bump m6 1))
 (J_37 (bump m6 1))))))))))))))))))))))))))) fun J=>
 (splitB (cQ (x0) (1:Int)) (Q (.bool (true)) m1) (splitB (cQ (64:Int) (x0)) (Q (.bool (true)) m1) (splitB (cQ (x1) (0:Int)) (Q (.bool (true)) m1) (splitB (cQ (16:Int) (x1)) (Q (.bool (true)) m1) (splitB (cQ (x2) (0:Int)) (Q (.bool (true)) m1) (splitB (cQ (1099511627776:Int) (x2))
 (Q (.bool (true)) m1)
 (J m1)))))))))))
theorem zr {x0:Int} {x1:Int} {x2:Int} {m:Mem} {Q:Value→Mem→Prop} (h:qF x0 x1 x2 m Q):ah cx vW [.int .i64 (x0),.int .i64 (x1),.int .i64 (x2)] m Q:=
 have e:qF x0 x1 x2 m Q=iH cx Tryz.f3 [7,10] [none,none,none,none,some ⟨[0,1,2],[],[],[],[],0⟩,none,none,none,none,none,some ⟨[0,1,2,8],[(9,.int .i64),(147,.int .i64),(148,.int .i64),(149,.sl),(150,.sl),(151,.sl)],[(7,1,0)],[],[(1,[147,148,149,150,151])],3⟩,none,none,none,none,some ⟨[0,1,2],[],[(7,1,0),(10,4,0)],[1,4],[],6⟩,none,none,none,none,none,none,some ⟨[0,1,2,14],[(15,.int .i64),(16,.int .i64),(17,.int .i64),(18,.int .i64)],[(10,4,0)],[4],[],7⟩,none,none,none,none,none,some ⟨[0,1,2,14,15,17,18,19],[(16,.int .i64)],[(10,4,0)],[4],[],8⟩,none,none,none,some ⟨[1,2,14,15,16,17],[(20,.int .i64)],[],[],[],8⟩] [.int .i64 (x0),.int .i64 (x1),.int .i64 (x2)] m Q:=by kernel_rfl
 ah.of dk dh (by kernel_rfl) (by kernel_rfl) (Eq.mp e h)
end
end Go.Proofs.YthpnifigjfplbaaGreat.vc
