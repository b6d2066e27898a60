import Derived.Test.YthpnifigjfplbaaGreatQU38
import Derived.Test.YthpnifigjfplbaaGreatQU36
import Derived.Test.YthpnifigjfplbaaGreatQU32
import Derived.KernelRfl
set_option linter.unusedVariables false
set_option linter.unusedSimpArgs false
set_option linter.unusedSectionVars false
namespace Go.Proofs.YthpnifigjfplbaaGreat.vc
open Go Go.AX
section
variable {B:Int} {m m0 mm mm' u:Mem} {Q:Value->Mem->Prop} {M now:Int} {a1 a2 a3 ae:Option Addr} {n1 c1 n2 c2 n3 c3 ne ce:Nat} {σ : pm.St} {L:List pm.Ev} {E:Nat->Option AObj}
theorem ze(h:Bes E u mm)(hw:Wf u):Wf mm:=⟨by rw[h.fl,h.nx];exact hw.1,fun b hb=>by
 rw[h.get b];cases he:E b with
 | some o=>have:=(h.gap b o he).2;rw[h.nx]at hb;omega
 | none=>exact hw.2 b (by rw[<-h.nx];exact hb)⟩
theorem Lr{α : Type}{enc:α->List Value}{b o:Nat}{x:α}(h:Bes E u mm)(hc:uE enc u b o x):uE enc mm b o x:=fun j v hv=>Ls h (hc j v hv)
theorem sZ{α : Type}{enc:α->List Value}{s:Nat}{a:Option Addr}{n:Nat}{l:List α}(h:Bes E u mm)(ha:Arr enc s u a n l):Arr enc s mm a n l:=ha.imp fun _ _ _ _ hc=>Lr h hc
theorem G2(h:Bes E u mm)(hσ : RdSt cx u M now a1 n1 a2 n2 a3 n3 c3 σ):RdSt cx mm M now a1 n1 a2 n2 a3 n3 c3 σ:=
 ⟨hσ.em,hσ.enow,let ⟨ss,a,b⟩:=hσ.servs;⟨ss,sZ h a,b.imp fun _ _ r=>⟨r.id,r.s,r.sec,r.held,r.num,r.ran,let ⟨js,a,b⟩:=r.jobs;⟨js,sZ h a,b.imp fun _ _ r=>⟨r.num,r.at_,r.done,sZ h r.prog⟩⟩⟩⟩,
  let ⟨ls,a,b⟩:=hσ.sems;⟨ls,sZ h a,b.imp fun _ _ r=>⟨r.most,r.holder,r.dead,sZ h r.queue⟩⟩,sZ h hσ.backs,⟨hσ.cut.1,by
   rcases hσ.cut.2 with e|⟨b,o,ob,e1,e2,e3⟩
   ·exact .inl e
   ·exact .inr ⟨b,o,ob,e1,h.got e2,yk h e3⟩⟩⟩
theorem OutS.bump{k:Nat}(h:OutS m0 u mm E ae ne ce L):OutS m0 (bump u k) (bump mm k) E ae ne ce L:=
 h.call (h.bes.bump k) ((Keep.refl h.wu).bump).wf ((Keep.refl h.wu).bump) ((Keep.refl h.wm).bump).wf
theorem OutS.len(h:OutS m0 u mm E ae ne ce L):L.length=ne:=by
 have:=h.out.1;rw[dm fo]at this;omega
theorem G3{i n:Nat}(h:i<=n)(σ : pm.St):(pm.iu i σ).length<=(pm.iu n σ).length:=by
 obtain⟨r,rfl⟩:∃r,n=i+r:=⟨n-i,by omega⟩;rw[pm.sW,gR2];omega
theorem N1{n:Nat}(hw:Wf m)(hσ : RdSt cx m M now a1 n1 a2 n2 a3 n3 c3 σ)(hI:pm.Iv B σ)(hd:pm.Hd σ)(hn:σ.now+n<=4611686018427387904)(hE:(pm.iu n σ).length<=100000000)
  (hQ:∀m' now' b1 d1 b2 d2 b3 d3 ae ne ce,Keep m m'->RdSt cx m' M now' b1 n1 b2 n2 b3 n3 d3 (pm.dK n σ)->Arr encEv 4 m' ae ne (pm.iu n σ)->Q (.tuple #[.agg #[.int .i64 M,.int .i64 now',.slice b1 n1 d1,.slice b2 n2 d2,.slice b3 n3 d3],.slice ae ne ce,.int .i64 0]) m') :
  ah cx uY [.agg #[.int .i64 M,.int .i64 now,.slice a1 n1 c1,.slice a2 n2 c2,.slice a3 n3 c3],.int .i64 (n:Int)] m Q:=by
 apply G4;unfold zf;have k0:Keep m (bump m 2):=(Keep.refl hw).bump;have en:=hσ.enow;have hn0:=hI.now1;refine dP (fun e=>absurd e (by omega)) (fun _=>?_);have e1:de .i64 4611686018427387904 now=4611686018427387904-now:=eO (by omega) (by omega);rw[e1];refine dP (fun e=>absurd e (by omega)) (fun _=>?_);have e2:bh .i64 now (n:Int)=now+n:=dN (by omega) (by omega);rw[e2];refine⟨fun a7 n7 c7 xc xc8 ac nc cc ac9 nc10 cc11 ac12 nc13 cc14 mm w=>∃(i:Nat) (u:Mem) (E:Nat->Option AObj),i<=n/\w=n-i/\xc=M/\nc=n1/\nc10=n2/\nc13=n3/\OutS m u mm E a7 n7 c7 (pm.iu i σ)/\RdSt cx u M xc8 ac n1 ac9 n2 ac12 n3 cc14 (pm.dK i σ),
  ⟨n,0,_,_,Nat.zero_le _,rfl,rfl,rfl,rfl,rfl,(OutS.begin hw).bump,hσ.keep hw k0⟩,?_⟩
 rintro a7 n7 c7 xc xc8 ac nc cc ac9 nc10 cc11 ac12 nc13 cc14 mm w ⟨i,u,E,hi,rfl,rfl,rfl,rfl,rfl,hO,hS⟩;have hIi:=(pm.lU hI i).1;have hdi:=pm.tH hI hd i;have hnow:=pm.yH hI i (by omega);have hxc:xc8 = σ.now+i:=by rw[hS.enow,hnow]
 refine dP (fun hlt=>?_) (fun hge=>?_)
 .have hin:i<n:=by omega
  have hnlt:(pm.dK i σ).now<4611686018427387904:=by omega
  refine ah.mono (ah.beside di hO.bes hO.wu (xz (Q:=fun r u'=>∃b1 d1 b2 d2 b3 d3 ae ne ce,r=(.tuple #[.agg #[.int .i64 xc,.int .i64 xc8,.slice b1 nc d1,.slice b2 nc10 d2,.slice b3 nc13 d3],.slice ae ne ce])/\Keep u u'/\RdSt cx u' xc xc8 b1 nc b2 nc10 b3 nc13 d3 (pm.settle (pm.dK i σ)).1/\Arr encEv 4 u' ae ne (pm.settle (pm.dK i σ)).2) hO.wu hS hIi fun u' b1 d1 b2 d2 b3 d3 ae ne ce k hR hA _=>⟨b1,d1,b2,d2,b3,d3,ae,ne,ce,rfl,k,hR,hA⟩)) ?_;rintro r m2 ⟨u2,hB2,hw2,b1,d1,b2,d2,b3,d3,as_,ns,cs,rfl,k2,hT,hTE⟩;refine⟨_,_,_,_,_,_,_,_,_,_,_,_,_,_,rfl,?_⟩;have hO2:=(hO.call hB2 hw2 k2 (ze hB2 hw2)).bump (k:=1);have kb:Keep u2 (bump u2 1):=(Keep.refl hw2).bump;obtain⟨q1,q2⟩:=pm.yI hIi hnlt 0;have hev1:(pm.iu (i+1) σ)=(pm.iu i σ++(pm.settle (pm.dK i σ)).2)++pm.iu 1 (pm.settle (pm.dK i σ)).1:=by
   rw[pm.sW,q2,List.append_assoc]
  have hpre:=G3 (show i+1<=n by omega) σ;have hb1:n7+ns<=100000000:=by
   have h1:=hO.len;have h2:=hTE.1;rw[hev1,gR2,gR2]at hpre;omega
  obtain⟨a9,c9,m3,u3,E3,hap,hO3,k3⟩:=hO2.app (ck:=cs) (hTE.keep hw2 kb) hb1;refine⟨_,_,_,m3,hap,?_⟩;obtain⟨hIT,hAT,hTm⟩:=pm.jD hIi;have hdT:=pm.uL hdi;have hTT:=pm.oQ hIi;have hTn:=pm.ri hIi;have k23:=kb.trans k3;have hT3:=hT.keep hw2 k23;have e3:de .i64 (now+(n:Int)) xc8=((n-i:Nat):Int):=by rw[eO (by omega) (by omega)];omega
  rw[e3];refine ah.mono (ah.beside di hO3.bes hO3.wu (G5 (Q:=fun r u'=>r=(.int .i64 (pm.still (pm.settle (pm.dK i σ)).1 ((n-i:Nat):Int)))/\Keep u3 u') hO3.wu hT3 hIT hdT fun u' k=>⟨rfl,k⟩)) ?_;rintro r m4 ⟨u4,hB4,hw4,rfl,k4⟩;refine⟨_,rfl,?_⟩;have hO4:=hO3.call hB4 hw4 k4 (ze hB4 hw4);have hT4:=hT3.keep hO3.wu k4;refine dP (fun hpos=>?_) (fun hzero=>?_)
  ·
   obtain⟨kk,hkk⟩:∃kk:Nat,(kk:Int)=pm.still (pm.settle (pm.dK i σ)).1 ((n-i:Nat):Int):=⟨(pm.still (pm.settle (pm.dK i σ)).1 ((n-i:Nat):Int)).toNat,by omega⟩;rw[<-hkk]at hpos ⊢;obtain⟨hkn,hlast⟩:=pm.Gm (k:=(kk:Int)) (by omega) (by rw[hkk];exact Int.le_refl _);have hkn':kk<=n-i:=by omega
   have hnk:(pm.settle (pm.dK i σ)).1.now+kk<=4611686018427387904:=by rw[hTn];omega
   obtain⟨t1,t2⟩:=pm.vr kk (by omega) hIT hdT hAT hTT hlast hnk;obtain⟨k',rfl⟩:∃k',kk=k'+1:=⟨kk-1,by omega⟩;obtain⟨r1,r2⟩:=pm.yI hIi hnlt k';have hst:pm.dK (i+(k'+1)) σ = pm.skip (pm.settle (pm.dK i σ)).1 ((k'+1:Nat):Int):=by rw[pm.uO,<-r1,t1]
   have hevs:pm.iu (i+(k'+1)) σ = pm.iu i σ++(pm.settle (pm.dK i σ)).2:=by rw[pm.sW,r2,t2,List.append_nil]
   refine ah.mono (ah.beside di hO4.bes hO4.wu (Ip (c1:=d1) (c2:=d2) (Q:=fun r u'=>∃now' b1 d1' b3 d3',r=(.agg #[.int .i64 xc,.int .i64 now',.slice b1 nc d1',.slice b2 nc10 d2,.slice b3 nc13 d3'])/\Keep u4 u'/\RdSt cx u' xc now' b1 nc b2 nc10 b3 nc13 d3' (pm.skip (pm.settle (pm.dK i σ)).1 ((k'+1:Nat):Int))) hO4.wu hT4 hIT hdT hnk fun u' now' b1 d1 b3 d3 k hR=>⟨now',b1,d1,b3,d3,rfl,k,hR⟩)) ?_;rintro r m5 ⟨u5,hB5,hw5,now5,s1,t1',s3,t3,rfl,k5,hR5⟩;refine⟨_,_,_,_,_,_,_,_,_,_,_,rfl,n-(i+(k'+1)),by omega,i+(k'+1),u5,E3,by omega,rfl,rfl,rfl,rfl,rfl,?_,?_⟩
   .rw[hevs];exact hO4.call hB5 hw5 k5 (ze hB5 hw5)
   .rw[hst];exact hR5
  ·
   refine ah.mono (ah.beside di hO4.bes hO4.wu (Dq (c1:=d1) (c2:=d2) (Q:=fun r u'=>∃now' b1 d1 b2 d2 b3 d3 ae ne ce,r=(.tuple #[.agg #[.int .i64 xc,.int .i64 now',.slice b1 nc d1,.slice b2 nc10 d2,.slice b3 nc13 d3],.slice ae ne ce,.int .i64 (pm.tick (pm.settle (pm.dK i σ)).1).2.2])/\Keep u4 u'/\RdSt cx u' xc now' b1 nc b2 nc10 b3 nc13 d3 (pm.tick (pm.settle (pm.dK i σ)).1).1/\Arr encEv 4 u' ae ne (pm.tick (pm.settle (pm.dK i σ)).1).2.1) hO4.wu hT4 hIT fun u' now' b1 d1 b2 d2 b3 d3 ae ne ce k hR hA _=>⟨now',b1,d1,b2,d2,b3,d3,ae,ne,ce,rfl,k,hR,hA⟩)) ?_;rintro r m6 ⟨u6,hB6,hw6,now6,s1,t1,s2,t2,s3,t3,av,nv,cv,rfl,k6,hR6,hE6⟩;refine⟨_,_,_,_,_,_,_,_,_,_,_,_,_,_,_,rfl,?_⟩;have hO6:=hO4.call hB6 hw6 k6 (ze hB6 hw6);have hb2:n7+ns+nv<=100000000:=by
    have h1:=hO.len;have h2:=hTE.1;have h3:=hE6.1;have h4:pm.iu 1 (pm.settle (pm.dK i σ)).1=(pm.tick (pm.settle (pm.dK i σ)).1).2.1:=by
     show []++_=_;rfl
    rw[hev1,h4,gR2,gR2]at hpre;omega
   obtain⟨a10,c10,m7,u7,E7,hap7,hO7,k7⟩:=hO6.app (ck:=cv) hE6 hb2;refine⟨_,_,_,m7,hap7,n-(i+1),by omega,i+1,u7,E7,by omega,rfl,rfl,rfl,rfl,rfl,?_,?_⟩
   .rw[hev1];exact hO7
   .have:pm.dK (i+1) σ = (pm.tick (pm.settle (pm.dK i σ)).1).1:=(pm.Aa hIi hnlt).1;rw[this];exact hR6.keep hw6 k7
 .have ei:i=n:=by omega
  subst ei;exact hQ mm xc8 ac cc ac9 cc11 ac12 cc14 a7 n7 c7 hO.keep (G2 hO.bes hS) (Arr.of_grow fo (by omega) hO.out)
end
end Go.Proofs.YthpnifigjfplbaaGreat.vc
namespace Go.Proofs.YthpnifigjfplbaaGreat.vc
open Go Go.AX
section
variable {B:Int} {m0 m:Mem} {lam:Nat->Lb} {Q:Value->Mem->Prop} {M now:Int} {a1 a2 a3:Option Addr} {n1 c1 n2 c2 n3 c3:Nat} {ss:List SV} {js:Nat->List JV} {ls:List LV} {qs:Nat->List Int} {σ : pm.St}
theorem Qi(hO:Ow TT (fun _=>.own true) (fun _=>.own true) m0 m lam a1 n1 c1 a2 n2 c2 a3 n3 c3 ss js ls qs σ):(ss.flatMap encS).all (qH m.nx)=true:=by
 rw[List.all_eq_true];intro u hu;obtain⟨v,hv,hu⟩:=List.mem_flatMap.1 hu;obtain⟨i,hi⟩:=List.getElem?_of_mem hv;have hJ:CSl m0 m fH true v.ja v.jn v.jc ((js i).flatMap encJ):=(hO.jb i v hi).1;have hlow:qH m.nx (.slice v.ja v.jn v.jc)=true:=by
  have hlt:=hJ.lt hO.keep.wf;generalize (js i).flatMap encJ=L at hJ;generalize v.ja=a at *;generalize v.jn=n at *;generalize v.jc=c at *;cases hJ with
  | nil=>rfl
  | empty b cc h1 h2=>exact gQ8 (hlt b (by simp[blk])).2
  | row b n pre l hw h1 h2=>exact gQ8 (hlt b (by simp[blk])).2
 unfold encS at hu;simp only[List.mem_cons,List.not_mem_nil,or_false]at hu;rcases hu with rfl|rfl|rfl|rfl|rfl|rfl|rfl|rfl|rfl|rfl|rfl
 all_goals first|exact hlow|rfl
theorem ON{i bv:Nat}{v:SV}(hO:Ow TT (fun _=>.own true) (fun _=>.own true) m0 m lam a1 n1 c1 a2 n2 c2 a3 n3 c3 ss js ls qs σ)(hi:i<=n1)(hR:Row m bv (encS v) dr false)(hbv:∀b∈blk a1,bv≠b)(hv0:v.ja=none/\v.jn=0/\v.jc=0)(hn:n1<=1000)
  (h:∀m',Wf m'->Fr m m' (blk a1)->m'.nx=m.nx+1->Row m' m.nx ((ss.take i++v::ss.drop i).flatMap encS) dr true->Q (.slice (some ⟨m.nx,0,none⟩) (n1+1) (n1+1)) m') :
  ah cx fb [.slice a1 n1 c1,.int .i64 (i:Int),.slice (some ⟨bv,0,none⟩) 1 1] m Q:=by
 have hw:=hO.keep.wf;have hfl0:m.fl<=m0.nx:=by have:=hO.keep.fl;have:=hO.fl0;omega
 have hLlen:(ss.flatMap encS).length=n1*11:=by rw[dm fJ,hO.s1n]
 have hx:dA m 11 1 (.slice (some ⟨bv,0,none⟩) 1 1)=some (encS v):=hR.first1 rfl;by_cases hin:i=n1
 .obtain⟨m',q1,q2,q3,q4,q5⟩:=wL (cx:=vc0.cx) (t:=cP) (e:=dr) (s:=11) (vs:=encS v) (by kernel_rfl) hw hfl0 hO.s1.own hLlen hx rfl rfl (by omega);have hsl:IJ (cX vc0.cx m cP (.slice a1 n1 c1) (some (.int .i64 (i:Int))) none none)=true:=by
   have ht:vc0.cx.un.get cP=some (.slice dr):=by kernel_rfl
   have hs:dO vc0.cx dr=some 11:=by kernel_rfl
   have h1:=hO.s1.own;subst hin;generalize ss.flatMap encS=L at h1;cases h1 with
   | nil=>
    unfold cX;have b1:fi 0 (some (.int .i64 ((0:Nat):Int))) 0=some 0:=dC (gQ4 _);simp only[ht,hs,mA,b1];rfl
   | empty b cc h2 h3=>
    rw[eR (lo:=some (.int .i64 ((0:Nat):Int))) (hi:=none) ht hs rfl (dC (gQ4 _)) (by unfold sameSize;rw[h3]) (gQ4 _)];rfl
   | row b n l h0 h2 h3=>
    rw[eR (hi:=none) ht hs rfl (dC (gQ4 _)) (h3.sameSize hs) (gQ4 _)];rfl
  refine ah.ov db Ig (r:=.slice (some ⟨m.nx,0,none⟩) (n1+1) (n1+1)) (u':=m') ?_ (h m' q2 q3 q4 ?_)
  .show pX vc0.cx cP dr 11 104 _ _=_;unfold pX;have e1:decide ((i:Int)=(n1:Int))=true:=decide_eq_true (by omega);simp only[e1,hsl,show Nat.blt 0 1=true from rfl];exact q1
  .rw[List.take_of_length_le (by rw[hO.s1n];omega),List.drop_eq_nil_of_le (by rw[hO.s1n];omega),List.flatMap_append];simpa using q5
 .have h1:=hO.s1.own;have hlow:=Qi hO;have hone:(ss.flatMap encS).all one1=true:=rI uP ss;have hfm:(ss.take i++v::ss.drop i).flatMap encS=(ss.flatMap encS).take (i*11)++encS v++(ss.flatMap encS).drop (i*11):=by
   have e:ss.flatMap encS=(ss.take i).flatMap encS++(ss.drop i).flatMap encS:=by rw[<-List.flatMap_append,List.take_append_drop]
   have hl:((ss.take i).flatMap encS).length=i*11:=by rw[dm fJ,List.length_take,hO.s1n];congr 1;omega
   rw[e,List.flatMap_append,List.flatMap_cons,<-hl,List.take_left,List.drop_left,List.append_assoc]
  rw[hfm]at h;have hlowv:(encS v).all (qH m.nx)=true:=by
   obtain⟨e1,e2,e3⟩:=hv0;unfold encS;rw[e1,e2,e3];rfl
  generalize ss.flatMap encS=L at *;cases h1 with
  | nil=>omega
  | empty b cc h2 h3=>omega
  | row b n l h0 h2 h3=>
   have hbne:Nat.beq bv b=false:=Tr.beq_false.2 (hbv b (by simp[blk]));obtain⟨tr,hg,hc⟩:=id h3;have hrow:fk m ⟨b,0,none⟩ (n1*11)=some L:=by
    have:=h3.rowAll;rw[hLlen]at this;exact this
   obtain⟨tv,hgv,_⟩:=id hR;have hcell:gQ m bv=true:=by unfold gQ;rw[hgv]
   have hok:wI m dr dr 11 b 0 n1 n1 i 1 bv L.length 104 L (encS v)=true:=by
    unfold wI;rw[hcell,hlow,hlowv,hone,uP v,hbne,gQ8 (show m.fl<=b by omega)];have b1:Nat.beq (0+n1*11) L.length=true:=by rw[hLlen,Nat.zero_add];exact Nat.beq_refl _
    have b2:Nat.blt i n1=true:=gQ8 (by omega);have b3:Nat.ble n1 n1=true:=gQ8 (gQ4 _);have b4:Nat.beq (encS v).length (1*11)=true:=rfl;have b5:Nat.beq L.length (n1*11)=true:=by rw[hLlen];exact Nat.beq_refl _
    have b6:Nat.ble (n1+1) 1000000=true:=gQ8 (by omega);rw[b1,b2,b3,b4,b5,b6,show Nat.beq dr dr=true from Nat.beq_refl _];rfl
   refine ah.ov db Ig (r:=.slice (some ⟨m.nx,0,none⟩) (n1+1) (n1+1)) (u':=(gd { m with hp:=m.hp.del b } (L.take (i*11)++encS v++L.drop (i*11)) dr true).2) ?_ (h _ ?_ ?_ rfl ?_)
   .show pX vc0.cx cP dr 11 104 _ _=_;unfold pX;have e1:decide ((i:Int)=(n1:Int))=false:=decide_eq_false (by omega);have e2:decide (0<=(i:Int))=true:=decide_eq_true (by omega);simp only[e1,e2];unfold ym;rw[Int.toNat_natCast];simp only[hg,hrow,hx,hok]
   .have hd:=FQ hw b;exact(ik hd.wf _ _ _).wf
   .refine⟨Nat.le_succ _,rfl,fun b' hb' hn'=>?_⟩;show ((m.hp.del b).put m.nx _).get b'=_;rw[Tr.get_put,if_neg (by omega),Tr.get_del,if_neg (by simpa [blk]using hn')]
   .exact Row.of_row (by
     show ((m.hp.del b).put m.nx _).get m.nx=_;rw[Tr.get_put,if_pos rfl];rfl)
theorem M7{α β : Type}{R:α->β->Prop}{l:List α}{k:List β}{a:α}{b:β}(h:All2 R l k)(i:Nat)(hab:R a b):All2 R (l.take i++a::l.drop i) (k.take i++b::k.drop i):=
 (h.take i).append (.cons hab (h.drop i))
theorem Bu{id q p:Int}(hw:Wf m)(hσ : RdSt cx m M now a1 n1 a2 n2 a3 n3 c3 σ)(hI:pm.Iv B σ)
  (h:∀m' b1 n1' d1 b2 d2 b3 d3,Keep m m'->RdSt cx m' M now b1 n1' b2 n2 b3 n3 d3 (pm.add σ id q p).1->Q (.tuple #[.agg #[.int .i64 M,.int .i64 now,.slice b1 n1' d1,.slice b2 n2 d2,.slice b3 n3 d3],.int .i64 (pm.add σ id q p).2]) m') :
  ah cx vB [.agg #[.int .i64 M,.int .i64 now,.slice a1 n1 c1,.slice a2 n2 c2,.slice a3 n3 c3],.int .i64 id,.int .i64 q,.int .i64 p] m Q:=by
 apply Dh;unfold Ao;have k0:Keep m (bump m 2):=(Keep.refl hw).bump;have hz:=hI.len1;have hl1:=hσ.len1;refine zH k0.wf (hσ.keep hw k0) hI.rise (by omega) fun m1 k1=>⟨_,_,rfl,?_⟩
 have k01:=k0.trans k1;have same:∀m' e,Keep m m'->pm.add σ id q p=(σ,e)->Q (.tuple #[.agg #[.int .i64 M,.int .i64 now,.slice a1 n1 c1,.slice a2 n2 c2,.slice a3 n3 c3],.int .i64 e]) m':=fun m' e k he=>by
  rw[he]at h;exact h m' a1 n1 c1 a2 c2 a3 c3 k (hσ.keep hw k)
 refine dL (fun f:Bool->Mem->Prop=>∀b,b=(cR id 1 || cR 255 id)->f b m1) ?_ ?_
 .rintro b rfl;refine cJ (fun h1=>same _ _ k01 (by unfold pm.add;rw[h1];rfl)) (fun h1=>?_);refine cJ (fun h2=>same _ _ k01 (by unfold pm.add;rw[h1,h2];rfl)) (fun h2=>?_);have e3:leI 32 (aQ n1)=leI 32 (aQ σ.servs.length):=by rw[hl1]
  rw[e3];refine cJ (fun h3=>same _ _ k01 (by unfold pm.add;rw[h1,h2,h3];rfl)) (fun h3=>?_);refine OO k01.wf fun m2 k2=>⟨_,_,_,_,_,_,rfl,?_⟩
  have k02:=k01.trans k2;refine cJ (fun h4=>same _ _ k02.bump (by unfold pm.add;rw[h1,h2,h3,h4];rfl)) (fun h4=>?_);obtain⟨_,_,ecn⟩:=pm.DT (fF.1 h4);have eadd:pm.add σ id q p=({ σ with servs:=σ.servs.take (pm.at_ σ.servs id)++⟨id,(pm.gi q p).1,[],0,0,0,0⟩::σ.servs.drop (pm.at_ σ.servs id) },0):=by
   unfold pm.add;rw[h1,h2,h3,h4];rfl
  rw[eadd]at h;have k03:Keep m (bump m2 1):=k02.bump;refine tW k03.wf (hσ.keep hw k03) (qR hI.toIw) fun m4 lam b1 d1 b2 d2 b3 d3 ss js ls qs hO=>⟨_,_,_,_,_,_,_,_,_,_,_,rfl,?_⟩
  have hO:=hO.old0 hw k03;rw[cO];have k5:Keep m4 (newO m4 (row [.int .i64 id,.int .i64 (pm.gi q p).1.q,.int .i64 (pm.gi q p).1.p,.int .i64 (pm.gi q p).1.bud,.int .i64 (pm.gi q p).1.due,.int .i64 (pm.gi q p).1.mode,.slice none 0 0,.int .i64 0,.int .i64 0,.int .i64 0,.int .i64 0] dr false)):=(Keep.refl hO.keep.wf).newO;have hR:Row (newO m4 (row [.int .i64 id,.int .i64 (pm.gi q p).1.q,.int .i64 (pm.gi q p).1.p,.int .i64 (pm.gi q p).1.bud,.int .i64 (pm.gi q p).1.due,.int .i64 (pm.gi q p).1.mode,.slice none 0 0,.int .i64 0,.int .i64 0,.int .i64 0,.int .i64 0] dr false)) m4.nx (encS ⟨id,(pm.gi q p).1,none,0,0,0,0,0,0⟩) dr false:=Row.newO;generalize newO m4 (row [.int .i64 id,.int .i64 (pm.gi q p).1.q,.int .i64 (pm.gi q p).1.p,.int .i64 (pm.gi q p).1.bud,.int .i64 (pm.gi q p).1.due,.int .i64 (pm.gi q p).1.mode,.slice none 0 0,.int .i64 0,.int .i64 0,.int .i64 0,.int .i64 0] dr false)=m5 at k5 hR;have hO5:=hO.then k5;have hblt:=hO.s1.lt hO.keep.wf;have hale:=IZ σ.servs id;refine ON hO5 (i:=pm.at_ σ.servs id) (by omega) hR (fun b hb e=>by have:=(hblt b hb).2;omega) ⟨rfl,rfl,rfl⟩ (by omega) fun m6 hw6 f6 hx6 hR6=>⟨_,_,_,rfl,?_⟩
  obtain⟨r1,r2,r3,r4⟩:=hO5.apartS (cx:=cx) f6 (fun b hb=>hO.s1l b hb) iN;have kk:Keep m m6:=Keep.of_fr hO5.keep hw6 f6 (fun b hb=>(hblt b hb).1);have hnew:RdServ m6 (⟨id,(pm.gi q p).1,none,0,0,0,0,0,0⟩:SV) (⟨id,(pm.gi q p).1,[],0,0,0,0⟩:pm.Serv):=⟨rfl,rfl,rfl,rfl,rfl,rfl,[],jm.nil,.nil⟩;refine h m6 _ _ _ _ _ _ _ kk ⟨hσ.em,hσ.enow,⟨_,?_,M7 r1 _ hnew⟩,r2,r3,r4⟩;have:=Arr.of_row fJ hR6;have e:(ss.take (pm.at_ σ.servs id)++(⟨id,(pm.gi q p).1,none,0,0,0,0,0,0⟩:SV)::ss.drop (pm.at_ σ.servs id)).length=n1+1:=by
   rw[gR2,List.length_cons,List.length_take,List.length_drop,hO.s1n];omega
  rw[e]at this;exact this
 .intro J hJ;refine cJ (fun h1=>hJ _ (by rw[h1];rfl)) (fun h1=>hJ _ (by rw[h1];rfl))
theorem OP{i:Nat}(hO:Ow TT (fun _=>.own true) (fun _=>.own true) m0 m lam a1 n1 c1 a2 n2 c2 a3 n3 c3 ss js ls qs σ)(hi:i<n1)
  (h:∀m',Wf m'->Fr m m' (blk a1)->Arr encS 11 m' a1 (n1-1) (ss.eraseIdx i)->Q (.slice a1 (n1-1) c1) m') :
  ah cx ip [.slice a1 n1 c1,.int .i64 (i:Int),.int .i64 ((i+1:Nat):Int)] m Q:=by
 apply pe;unfold kU;have hw:=hO.keep.wf;have hfl0:m.fl<=m0.nx:=by have:=hO.keep.fl;have:=hO.fl0;omega
 have hLlen:(ss.flatMap encS).length=n1*11:=by rw[dm fJ,hO.s1n]
 have hone:(ss.flatMap encS).all one1=true:=rI uP ss;have h1:=hO.s1.own;have hss:=hO.s1n;have hdel:(ss.eraseIdx i).flatMap encS=(ss.flatMap encS).take (i*11)++(ss.flatMap encS).drop ((i+1)*11):=by
  have e:ss.flatMap encS=(ss.take i).flatMap encS++(ss.drop i).flatMap encS:=by rw[<-List.flatMap_append,List.take_append_drop]
  have e':ss.flatMap encS=(ss.take (i+1)).flatMap encS++(ss.drop (i+1)).flatMap encS:=by rw[<-List.flatMap_append,List.take_append_drop]
  have hl:((ss.take i).flatMap encS).length=i*11:=by rw[dm fJ,List.length_take,hss];congr 1;omega
  have hl':((ss.take (i+1)).flatMap encS).length=(i+1)*11:=by rw[dm fJ,List.length_take,hss];congr 1;omega
  have t1:(ss.flatMap encS).take (i*11)=(ss.take i).flatMap encS:=by rw[e,<-hl,List.take_left]
  have t2:(ss.flatMap encS).drop ((i+1)*11)=(ss.drop (i+1)).flatMap encS:=by rw[e',<-hl',List.drop_left]
  rw[t1,t2,List.eraseIdx_eq_take_drop_succ,List.flatMap_append]
 generalize hLL:ss.flatMap encS=L at h1;rw[hLL]at hLlen hone hdel;cases h1 with
 | nil=>omega
 | empty b cc h2 h3=>omega
 | row b n l h0 h2 h3=>
  obtain⟨⟨x1,x2,x3,d1⟩,d2,d3,m1,d4,d5,m2,Z,d6,d7,d8,d9,d10⟩:=Gv (cx:=cx) (t:=cP) (e:=dr) (s:=11) (i:=i) (by kernel_rfl) (by kernel_rfl) hw h3 hLlen hi (by omega) hone;refine⟨x1,x2,x3,d1,?_⟩;refine fC (fun e=>by omega) (fun _=>?_);refine⟨_,_,_,d2,_,_,_,d3,_,_,_,m1,d4,_,_,_,d5,m2,d6,?_⟩;have hn:i+(n1-(i+1))=n1-1:=by omega
  rw[hn];refine h m2 ⟨by have:=hw.1;omega,fun b' hb'=>?_⟩ ⟨by omega,d10,fun b' hb' hn'=>d8 b' (by simpa [blk]using hn')⟩ ?_
  .have hbn:b≠b':=fun e=>by have:=hw.row h3;omega
   rw[d8 b' (fun e=>hbn e.symm)];exact hw.2 b' (by omega)
  .refine⟨by rw[List.length_eraseIdx,if_pos (by omega)];omega,fun j x hx=>⟨b,0,rfl,fun k v hv=>?_⟩⟩;have hk:k<11:=by rw[<-fJ x];exact(gQ1 hv).1
   have hj:j<n1-1:=by
    have:=(gQ1 hx).1;rw[List.length_eraseIdx,if_pos (by omega)]at this;omega
   rw[<-hdel]at d7;rw[d7.rd,List.getElem?_append_left (by rw[dm fJ,List.length_eraseIdx,if_pos (by omega)];omega),Nat.zero_add,flat_get fJ hx hk,hv]
theorem OQ{id:Int}(hw:Wf m)(hσ : RdSt cx m M now a1 n1 a2 n2 a3 n3 c3 σ)(hI:pm.Iv B σ)
  (h:∀m' b1 n1' d1 b2 d2 b3 d3,Keep m m'->RdSt cx m' M now b1 n1' b2 n2 b3 n3 d3 (pm.drop σ id).1->Q (.tuple #[.agg #[.int .i64 M,.int .i64 now,.slice b1 n1' d1,.slice b2 n2 d2,.slice b3 n3 d3],.int .i64 (pm.drop σ id).2]) m') :
  ah cx tX [.agg #[.int .i64 M,.int .i64 now,.slice a1 n1 c1,.slice a2 n2 c2,.slice a3 n3 c3],.int .i64 id] m Q:=by
 apply Cg;unfold yY;have k0:Keep m (bump m 2):=(Keep.refl hw).bump;have hz:=hI.len1;have hl1:=hσ.len1;refine zH k0.wf (hσ.keep hw k0) hI.rise (by omega) fun m1 k1=>⟨_,_,rfl,?_⟩
 have k01:=k0.trans k1;have same:∀m' e,Keep m m'->pm.drop σ id=(σ,e)->Q (.tuple #[.agg #[.int .i64 M,.int .i64 now,.slice a1 n1 c1,.slice a2 n2 c2,.slice a3 n3 c3],.int .i64 e]) m':=fun m' e k he=>by
  rw[he]at h;exact h m' a1 n1 c1 a2 c2 a3 c3 k (hσ.keep hw k)
 refine dR (fun h1=>same _ _ k01 (by unfold pm.drop;rw[h1];rfl)) (fun h1=>?_);obtain⟨x,hx,hxid⟩:=pm.BL hI.rise h1;have hil:=(gQ1 hx).1;obtain⟨ss0,hA0,hS0⟩:=(hσ.keep hw k01).servs;obtain⟨v0,hv0,hR0⟩:=hS0.get' hx;refine hA0.open (k:=pm.at_ σ.servs id) hv0 fun b o hc=>?_
 refine⟨_,hc 0 _ rfl,_,hc 1 _ rfl,_,hc 2 _ rfl,_,hc 3 _ rfl,_,hc 4 _ rfl,_,hc 5 _ rfl,_,_,_,hc 6 _ rfl,_,hc 7 _ rfl,_,hc 8 _ rfl,_,hc 9 _ rfl,_,hc 10 _ rfl,?_⟩;refine Di k01.wf fun m2 k2=>⟨_,rfl,?_⟩
 have k02:=k01.trans k2;have eid:cT v0.s.mode 0=x.idle:=by unfold pm.Serv.idle;rw[hR0.s]
 rw[eid];refine dR (fun h2=>same _ _ k02 (by unfold pm.drop;rw[h1,hx];simp only[h2];rfl)) (fun h2=>?_);have edrop:pm.drop σ id=({ σ with servs:=σ.servs.eraseIdx (pm.at_ σ.servs id) },0):=by
  unfold pm.drop;rw[h1,hx];simp only[h2];rfl
 rw[edrop]at h;refine tW k02.wf (hσ.keep hw k02) (qR hI.toIw) fun m4 lam b1 d1 b2 d2 b3 d3 ss js ls qs hO=>⟨_,_,_,_,_,_,_,_,_,_,_,rfl,?_⟩
 have hO:=hO.old0 hw k02;have ei:bh .i64 ((pm.at_ σ.servs id:Nat):Int) 1=((pm.at_ σ.servs id+1:Nat):Int):=by rw[dN (by omega) (by omega)];omega
 rw[ei];have hblt:=hO.s1.lt hO.keep.wf;refine OP hO (by omega) fun m6 hw6 f6 hA6=>⟨_,_,_,rfl,?_⟩
 obtain⟨r1,r2,r3,r4⟩:=hO.apartS (cx:=cx) f6 (fun b hb=>hO.s1l b hb) iN;have kk:Keep m m6:=Keep.of_fr hO.keep hw6 f6 (fun b hb=>(hblt b hb).1);refine h m6 _ _ _ _ _ _ _ kk ⟨hσ.em,hσ.enow,⟨_,hA6,?_⟩,r2,r3,r4⟩;show All2 _ (ss.eraseIdx _) (σ.servs.eraseIdx _);rw[List.eraseIdx_eq_take_drop_succ,List.eraseIdx_eq_take_drop_succ];exact(r1.take _).append (r1.drop _)
end
end Go.Proofs.YthpnifigjfplbaaGreat.vc
namespace Go.Proofs.YthpnifigjfplbaaGreat.vc
open Go Go.AX
section
variable {B:Int} {m0 m:Mem} {lam:Nat->Lb} {wj wq:Nat->Kd} {Q:Value->Mem->Prop} {M now:Int} {a1 a2 a3 ae:Option Addr} {n1 c1 n2 c2 n3 c3 ne ce:Nat} {ss:List SV} {js:Nat->List JV} {ls:List LV} {qs:Nat->List Int} {σ : pm.St} {E:List pm.Ev}
theorem OS{i:Nat}(hO:Ow TT (fun _=>.own true) (fun _=>.own true) m0 m lam a1 n1 c1 a2 n2 c2 a3 n3 c3 ss js ls qs σ)(hi:i<n3)
  (h:∀m',Wf m'->Fr m m' (blk a3)->Arr encB 2 m' a3 (n3-1) (σ.backs.eraseIdx i)->Cut cx m' a3 (n3-1) c3 2->Q (.slice a3 (n3-1) c3) m') :
  ah cx iq [.slice a3 n3 c3,.int .i64 (i:Int),.int .i64 ((i+1:Nat):Int)] m Q:=by
 apply pg;unfold kV;have hw:=hO.keep.wf;have hfl0:m.fl<=m0.nx:=by have:=hO.keep.fl;have:=hO.fl0;omega
 have hLlen:(σ.backs.flatMap encB).length=n3*2:=by rw[dm fI,hO.s3n]
 have hone:(σ.backs.flatMap encB).all one1=true:=rI yK σ.backs;have h1:=hO.s3.own;have hss:=hO.s3n;generalize σ.backs=ss at *;have hdel:(ss.eraseIdx i).flatMap encB=(ss.flatMap encB).take (i*2)++(ss.flatMap encB).drop ((i+1)*2):=by
  have e:ss.flatMap encB=(ss.take i).flatMap encB++(ss.drop i).flatMap encB:=by rw[<-List.flatMap_append,List.take_append_drop]
  have e':ss.flatMap encB=(ss.take (i+1)).flatMap encB++(ss.drop (i+1)).flatMap encB:=by rw[<-List.flatMap_append,List.take_append_drop]
  have hl:((ss.take i).flatMap encB).length=i*2:=by rw[dm fI,List.length_take,hss];congr 1;omega
  have hl':((ss.take (i+1)).flatMap encB).length=(i+1)*2:=by rw[dm fI,List.length_take,hss];congr 1;omega
  have t1:(ss.flatMap encB).take (i*2)=(ss.take i).flatMap encB:=by rw[e,<-hl,List.take_left]
  have t2:(ss.flatMap encB).drop ((i+1)*2)=(ss.drop (i+1)).flatMap encB:=by rw[e',<-hl',List.drop_left]
  rw[t1,t2,List.eraseIdx_eq_take_drop_succ,List.flatMap_append]
 generalize hLL:ss.flatMap encB=L at h1;rw[hLL]at hLlen hone hdel;cases h1 with
 | nil=>omega
 | empty b cc h2 h3=>omega
 | row b n l h0 h2 h3=>
  obtain⟨⟨x1,x2,x3,d1⟩,d2,d3,m1,d4,d5,m2,Z,d6,d7,d8,d9,d10⟩:=Gv (cx:=cx) (t:=cS) (e:=dk) (s:=2) (i:=i) (by kernel_rfl) (by kernel_rfl) hw h3 hLlen hi (by omega) hone;refine⟨x1,x2,x3,d1,?_⟩;refine fC (fun e=>by omega) (fun _=>?_);refine⟨_,_,_,d2,_,_,_,d3,_,_,_,m1,d4,_,_,_,d5,m2,d6,?_⟩;have hn:i+(n3-(i+1))=n3-1:=by omega
  rw[hn];refine h m2 ⟨by have:=hw.1;omega,fun b' hb'=>?_⟩ ⟨by omega,d10,fun b' hb' hn'=>d8 b' (by simpa [blk]using hn')⟩ ?_ ⟨by omega,.inr ?_⟩
  .have hbn:b≠b':=fun e=>by have:=hw.row h3;omega
   rw[d8 b' (fun e=>hbn e.symm)];exact hw.2 b' (by omega)
  .refine⟨by rw[List.length_eraseIdx,if_pos (by omega)];omega,fun j x hx=>⟨b,0,rfl,fun k v hv=>?_⟩⟩;have hk:k<2:=by rw[<-fI x];exact(gQ1 hv).1
   have hj:j<n3-1:=by
    have:=(gQ1 hx).1;rw[List.length_eraseIdx,if_pos (by omega)]at this;omega
   rw[<-hdel]at d7;rw[d7.rd,List.getElem?_append_left (by rw[dm fI,List.length_eraseIdx,if_pos (by omega)];omega),Nat.zero_add,flat_get fI hx hk,hv]
  .obtain⟨tr,hg,_⟩:=id d7;exact⟨b,0,_,rfl,hg,d7.sameSize iN⟩
theorem Le{id:Int}{on:Bool}(hw:Wf m)(hσ : RdSt cx m M now a1 n1 a2 n2 a3 n3 c3 σ)(hI:pm.Iv B σ)
  (h:∀m' b1 d1 b2 d2 b3 n3' d3,Keep m m'->RdSt cx m' M now b1 n1 b2 n2 b3 n3' d3 (pm.ia σ id on).1->Q (.tuple #[.agg #[.int .i64 M,.int .i64 now,.slice b1 n1 d1,.slice b2 n2 d2,.slice b3 n3' d3],.int .i64 (pm.ia σ id on).2]) m') :
  ah cx qS [.agg #[.int .i64 M,.int .i64 now,.slice a1 n1 c1,.slice a2 n2 c2,.slice a3 n3 c3],.int .i64 id,.bool on] m Q:=by
 apply zJ;unfold wg;have k0:Keep m (bump m 2):=(Keep.refl hw).bump;have hz3:=hI.len3;have hl3:=hσ.len3;refine OT k0.wf (hσ.keep hw k0) (by omega) fun m1 k1=>⟨_,rfl,?_⟩
 have k01:=k0.trans k1;have same:∀e,pm.ia σ id on=(σ,e)->Q (.tuple #[.agg #[.int .i64 M,.int .i64 now,.slice a1 n1 c1,.slice a2 n2 c2,.slice a3 n3 c3],.int .i64 e]) m1:=fun e he=>by
  rw[he]at h;exact h m1 a1 c1 a2 c2 a3 n3 c3 k01 (hσ.keep hw k01)
 have hbk:∀i,pm.back σ.backs id=some i->i<n3:=fun i hi=>by
  unfold pm.back at hi;have:=(List.findIdx?_eq_some_iff_findIdx_eq.1 hi).1;omega
 refine dL (fun f:Bool->Mem->Prop=>∀b,b=(cR id 1 || cR 255 id)->f b m1) ?_ ?_
 .rintro b rfl;refine cJ (fun h1=>same _ (by unfold pm.ia;rw[h1];rfl)) (fun h1=>?_);refine dL (fun f:Bool->Mem->Prop=>∀b,b=(on&&(pm.back σ.backs id).isSome)->f b m1) ?_ ?_
  .rintro b rfl;refine cJ (fun h2=>?_) (fun h2=>?_)
   .simp only[Bool.and_eq_true]at h2;obtain⟨rfl,h2⟩:=h2;obtain⟨i,hi⟩:=Option.isSome_iff_exists.1 h2;exact same _ (by unfold pm.ia;rw[h1,hi];rfl)
   refine dL (fun f:Bool->Mem->Prop=>∀b,b=(on&&leI 16 (aQ n3))->f b m1) ?_ ?_
   .rintro b rfl;refine cJ (fun h3=>?_) (fun h3=>?_)
    .simp only[Bool.and_eq_true]at h3;obtain⟨rfl,h3⟩:=h3;rw[Bool.true_and]at h2;have hb:pm.back σ.backs id=none:=Option.not_isSome_iff_eq_none.1 (by rw[h2];simp);exact same _ (by unfold pm.ia;rw[h1,hb];simp only[hl3,h3];rfl)
    refine dL (fun f:Bool->Mem->Prop=>∀b,b=(!on&&!(pm.back σ.backs id).isSome)->f b m1) ?_ ?_
    .rintro b rfl;refine cJ (fun h4=>?_) (fun h4=>?_)
     .simp only[Bool.and_eq_true,Bool.not_eq_true']at h4;obtain⟨rfl,h4⟩:=h4;have hb:pm.back σ.backs id=none:=Option.not_isSome_iff_eq_none.1 (by rw[h4];simp);exact same _ (by unfold pm.ia;rw[h1,hb];rfl)
     refine tW k01.wf (hσ.keep hw k01) (qR hI.toIw) fun m4 lam b1 d1 b2 d2 b3 d3 ss js ls qs hO=>⟨_,_,_,_,_,_,_,_,_,_,_,rfl,?_⟩
     have hO:=hO.old0 hw k01;have hblt:=hO.s3.lt hO.keep.wf;cases on with
     | true=>
      rw[Bool.true_and]at h2 h3;have hb:pm.back σ.backs id=none:=Option.not_isSome_iff_eq_none.1 (by rw[h2];simp);have eg:pm.ia σ id true=({ σ with backs:=σ.backs++[⟨id,0⟩] },0):=by
       unfold pm.ia;rw[h1,hb];simp only[hl3,h3];rfl
      rw[eg]at h;rw[eG,cO];have k5:Keep m4 (newO m4 (row [.int .i64 id,.int .i64 0] dk false)):=(Keep.refl hO.keep.wf).newO;have hR:Row (newO m4 (row [.int .i64 id,.int .i64 0] dk false)) m4.nx [.int .i64 id,.int .i64 0] dk false:=Row.newO;generalize newO m4 (row [.int .i64 id,.int .i64 0] dk false)=m5 at k5 hR;have hO5:=hO.then k5;obtain⟨m6,q1,q2,q3,q4,q5⟩:=wL (cx:=cx) (t:=cS) (e:=dk) (s:=2) (vs:=[.int .i64 id,.int .i64 0]) (by kernel_rfl) k5.wf (by have:=hO5.keep.fl;have:=hO5.fl0;omega) hO5.s3.own (by rw[dm fI,hO.s3n]) (hR.first1 rfl) rfl rfl (by omega);refine⟨_,_,_,m6,q1,?_⟩;obtain⟨r1,r2⟩:=hO5.apartB q3 (fun b hb=>hO.s3l b hb);have kk:Keep m m6:=Keep.of_fr hO5.keep q2 q3 (fun b hb=>(hblt b hb).1);have e1:σ.backs.flatMap encB++[.int .i64 id,.int .i64 0]=(σ.backs++[(⟨id,0⟩:pm.Back)]).flatMap encB:=by rw[List.flatMap_append];rfl
      rw[e1]at q5;have hA:=Arr.of_row fI q5;rw[gR2,hO.s3n]at hA;have q5':=q5;obtain⟨tr,hg,_⟩:=q5';exact h m6 _ _ _ _ _ _ _ kk ⟨hσ.em,hσ.enow,r1,r2,hA,⟨gQ4 _,.inr ⟨_,_,_,rfl,hg,q5.sameSize iN⟩⟩⟩
     | false=>
      have hb:∃i,pm.back σ.backs id=some i:=by
       cases hb:pm.back σ.backs id with
       | none=>rw[hb]at h4;simp at h4
       | some i=>exact⟨i,rfl⟩
      obtain⟨i,hi⟩:=hb;have hin:=hbk i hi;have eg:pm.ia σ id false=({ σ with backs:=σ.backs.eraseIdx i },0):=by
       unfold pm.ia;rw[h1,hi];rfl
      rw[eg]at h;rw[gk,hi];have ei:bh .i64 ((i:Nat):Int) 1=((i+1:Nat):Int):=by rw[dN (by omega) (by omega)];omega
      simp only[ei];refine OS hO hin fun m6 hw6 f6 hA6 hC6=>⟨_,_,_,rfl,?_⟩
      obtain⟨r1,r2⟩:=hO.apartB f6 (fun b hb=>hO.s3l b hb);have kk:Keep m m6:=Keep.of_fr hO.keep hw6 f6 (fun b hb=>(hblt b hb).1);exact h m6 _ _ _ _ _ _ _ kk ⟨hσ.em,hσ.enow,r1,r2,hA6,hC6⟩
    .intro J hJ;refine cJ (fun h4=>hJ _ ?_) (fun h4=>hJ _ (by have h4:(!on)=false:=h4;rw[h4];rfl));have h4:(!on)=true:=h4;rw[h4,Bool.true_and];cases hb:pm.back σ.backs id with
     | none=>simp[gH]
     | some i=>simp[dW]
   .intro J hJ;exact cJ (fun h4=>hJ _ (by rw[h4,Bool.true_and])) (fun h4=>hJ _ (by rw[h4];rfl))
  .intro J hJ;refine cJ (fun h4=>hJ _ ?_) (fun h4=>hJ _ (by rw[h4];rfl));rw[h4,Bool.true_and];cases hb:pm.back σ.backs id with
   | none=>simp[ki]
   | some i=>simp[fZ]
 .intro J hJ;exact cJ (fun h1=>hJ _ (by rw[h1];rfl)) (fun h1=>hJ _ (by rw[h1];rfl))
theorem M8(hw:Wf m)(hσ : RdSt cx m M now a1 n1 a2 n2 a3 n3 c3 σ)(hn2:n2<=1000)
  (h:∀m' a c,Keep m m'->Q (.slice a n2 c) m') :
  ah cx mI [.agg #[.int .i64 M,.int .i64 now,.slice a1 n1 c1,.slice a2 n2 c2,.slice a3 n3 c3]] m Q:=by
 apply vC;unfold qz;have k0:Keep m (bump m 1):=(Keep.refl hw).bump;obtain⟨ls,hA,_⟩:=hσ.sems;refine oN (show n2<=4611686018427387904 by omega) (fun k a n c mm=>∃l,Acc m mm a n c 1 jK l/\n=k) ⟨[],Acc.nil k0 _ _,rfl⟩ ?_;rintro k a n c m1 hk ⟨l,hacc,rfl⟩ I w hI;refine dG (fun hlt=>?_) (fun hge=>?_)
 .obtain⟨v,hv⟩:∃v,ls[n]? = some v:=⟨_,gQ2 (by rw[hA.1];exact hlt)⟩;refine(hA.keep hw hacc.keep).open (k:=n) hv fun b o hc=>?_
  refine⟨_,hc 0 _ rfl,_,hc 1 _ rfl,_,_,_,hc 2 _ rfl,_,hc 3 _ rfl,?_⟩;rw[cO];obtain⟨m4,q1,q2,q3,q4,q5⟩:=(hacc.then ((Keep.refl hacc.keep.wf).bump (n:=1))).push (cx:=cx) (t:=kw) (vs:=[.int .i64 v.most]) (by kernel_rfl) rfl rfl (by omega);exact⟨_,_,_,m4,q1,hI _ _ _ m4 hlt ⟨_,q2,rfl⟩⟩
 .obtain rfl:n=n2:=by omega
  exact h m1 a c hacc.keep
theorem OwE.pushJ(h:OwE wj wq m0 m lam a1 n1 c1 a2 n2 c2 a3 n3 c3 ss js ls qs σ ae ne ce E){i b o:Nat}{u:SV}{y:pm.Serv}{jv:JV}{jx:pm.Job}{xa:Option Addr}(hu:ss[i]? = some u)(hy:σ.servs[i]? = some y)(hab:a1=some ⟨b,o,none⟩)(hκ : wj i = .own true)(hx:dA m 4 1 (.slice xa 1 1)=some (encJ jv))(hd:DpJob m lam jv jx)(hn:u.jn<=900000) :
  ∃m',cQ cx m [fR,fR] [.slice u.ja u.jn u.jc,.slice xa 1 1]=some (.slice (some ⟨m.nx,0,none⟩) (u.jn+1) (u.jn+1),m')/\okW m' b (o+Int.toNat (i:Int)*11+6) 1/\
   OwE wj wq m0 (wr m' b (o+Int.toNat (i:Int)*11+6) [.slice (some ⟨m.nx,0,none⟩) (u.jn+1) (u.jn+1)]) (il lam m.nx (.jb i)) a1 n1 c1 a2 n2 c2 a3 n3 c3 (ss.set i { u with ja:=some ⟨m.nx,0,none⟩,jn:=u.jn+1,jc:=u.jn+1 }) (il js i (js i++[jv])) ls qs { σ with servs:=σ.servs.set i { y with jobs:=y.jobs++[jx] } } ae ne ce E:=by
 have hw:=h.wf;have hH:=h.ow.jb i u hu;rw[hκ]at hH;obtain⟨p1,p2,p3⟩:=hH;obtain⟨m',q1,q2,q3,q4,q5⟩:=wL (cx:=cx) (t:=fR) (e:=fH) (s:=4) (vs:=encJ jv) (by kernel_rfl) hw (by have:=h.ow.keep.fl;have:=h.ow.fl0;omega) p1.own (by rw[dm fh,p3]) hx rfl rfl hn;have hR:Row m' m.nx ((js i++[jv]).flatMap encJ) fH true:=by rw[List.flatMap_append];simpa using q5
 obtain⟨g1,g2⟩:=h.ow.pushJ hu hy hab q2 q3 hκ (gQ4 _) (by omega) hR hd;have hlb:lam b = .sv:=h.ow.s1l b (by rw[hab];simp[blk]);have f2:Fr m (wr m' b (o+Int.toNat (i:Int)*11+6) [.slice (some ⟨m.nx,0,none⟩) (u.jn+1) (u.jn+1)]) (b::blk u.ja):=(q3.mono (S':=b::blk u.ja) (fun b' hb'=>.inl (gQ5 _ hb'))).wr (.inl (gQ9 ..));have hS:∀b'∈b::blk u.ja,lam b' = .sv∨lam b' = .jb i:=fun b' hb'=>by
  rcases List.mem_cons.1 hb' with e|hb'
  .subst e;exact .inl hlb
  .exact .inr (p2 b' hb')
 refine⟨m',q1,g1,⟨g2,h.ev.fr f2 hw (fun b' hb' hs=>?_),fun b' hb'=>⟨(h.evn b' hb').1,?_⟩⟩⟩
 .have:=(h.evn b' hb').2;rcases hS b' hs with e|e<;>rw[e]at this<;>cases this
 .rw[eV (fun e=>by have:=h.evlt b' hb';omega)];exact(h.evn b' hb').2
end
end Go.Proofs.YthpnifigjfplbaaGreat.vc
namespace Go.Proofs.YthpnifigjfplbaaGreat.vc
open Go Go.AX
section
variable {B:Int} {m0 m:Mem} {lam:Nat->Lb} {wj wq:Nat->Kd} {Q:Value->Mem->Prop} {M now:Int} {a1 a2 a3 ae:Option Addr} {n1 c1 n2 c2 n3 c3 ne ce:Nat} {ss:List SV} {js:Nat->List JV} {ls:List LV} {qs:Nat->List Int} {σ : pm.St} {E:List pm.Ev}
theorem Jy{id:Int}{ap:Option Addr}{np cp:Nat}{p:List pm.Step}(hw:Wf m)(hσ : RdSt cx m M now a1 n1 a2 n2 a3 n3 c3 σ)(hI:pm.Iv B σ)(hB:B<4611686018427387904)(hp:Arr encP 2 m ap np p)
  (h:∀m' b1 d1 b2 d2 b3 d3 ae ne ce,Keep m m'->RdSt cx m' M now b1 n1 b2 n2 b3 n3 d3 (pm.release σ id p).1->Arr encEv 4 m' ae ne (pm.release σ id p).2.1->ne<=2->Q (.tuple #[.agg #[.int .i64 M,.int .i64 now,.slice b1 n1 d1,.slice b2 n2 d2,.slice b3 n3 d3],.slice ae ne ce,.int .i64 (pm.release σ id p).2.2]) m') :
  ah cx qm [.agg #[.int .i64 M,.int .i64 now,.slice a1 n1 c1,.slice a2 n2 c2,.slice a3 n3 c3],.int .i64 id,.slice ap np cp] m Q:=by
 apply zh;unfold ve;have k0:Keep m (bump m 2):=(Keep.refl hw).bump;have hz:=hI.len1;have hz2:=hI.len2;have hl1:=hσ.len1;have hl2:=hσ.len2;have en:=hσ.enow;refine zH k0.wf (hσ.keep hw k0) hI.rise (by omega) fun m1 k1=>⟨_,_,rfl,?_⟩
 have k01:=k0.trans k1;have same:∀m' e,Keep m m'->pm.release σ id p=(σ,[],e)->Q (.tuple #[.agg #[.int .i64 M,.int .i64 now,.slice a1 n1 c1,.slice a2 n2 c2,.slice a3 n3 c3],.slice none 0 0,.int .i64 e]) m':=fun m' e k he=>by
  rw[he]at h;exact h m' a1 c1 a2 c2 a3 c3 none 0 0 k (hσ.keep hw k) jm.nil (by omega)
 refine dR (fun h1=>same _ _ k01 (by unfold pm.release;rw[h1];rfl)) (fun h1=>?_);obtain⟨x,hx,hxid⟩:=pm.BL hI.rise h1;have hil:=(gQ1 hx).1;have hxm:=gQ3 hx;refine M8 k01.wf (hσ.keep hw k01) (by omega) fun m2 am cm k2=>⟨_,_,_,rfl,?_⟩
 have k02:=k01.trans k2;refine Ny k02.wf (hp.keep hw k02) fun m3 k3=>⟨_,rfl,?_⟩
 have k03:=k02.trans k3;have e2:pm.qf p n2=pm.qf p σ.sems.length:=by rw[hl2]
 rw[e2];refine dR (fun h2=>same _ _ k03 (by unfold pm.release;rw[h1,h2];rfl)) (fun h2=>?_);obtain⟨ss0,hA0,hS0⟩:=(hσ.keep hw k03).servs;obtain⟨v0,hv0,hR0⟩:=hS0.get' hx;obtain⟨jl0,hj0,hj0'⟩:=hR0.jobs;have hjl:v0.jn=x.jobs.length:=by rw[<-hj0'.len,hj0.1]
 refine hA0.open (k:=pm.at_ σ.servs id) hv0 fun b0 o0 hc0=>⟨_,_,_,hc0 6 _ rfl,?_⟩
 have e3:leI 8 (aQ v0.jn)=leI 8 (aQ x.jobs.length):=by rw[hjl]
 rw[e3];refine cJ (fun h3=>same _ _ k03 (by unfold pm.release;rw[h1,h2,hx];simp only[h3];rfl)) (fun h3=>?_);have h3':=ki.1 h3;simp only[pm.fP]at h3';obtain⟨hn1,hn2⟩:=hI.num x hxm;obtain⟨hpg,_⟩:=pm.DV.1 h2;have enum:bh .i64 x.num 1=x.num+1:=dN (by omega) (by omega);obtain⟨j1,j2⟩:=pm.DW (n:=x.num+1) h2 (by omega);refine tW k03.wf (hσ.keep hw k03) (qR hI.toIw) fun m4 lam b1 d1 b2 d2 b3 d3 ss js ls qs hO=>⟨_,_,_,_,_,_,_,_,_,_,_,rfl,?_⟩
 have hE:=OwE.start (hO.old0 hw k03);obtain⟨v,hv⟩:∃v,ss[pm.at_ σ.servs id]? = some v:=⟨_,gQ2 (by rw[hE.ow.s1n];omega)⟩;generalize hi:pm.at_ σ.servs id=i at *
 have kb:Keep m4 (bump m4 1):=(Keep.refl hE.wf).bump;have hE0:=hE.then kb;obtain⟨b,o,rfl,hlb,hc⟩:=hE0.ow.atS hv;obtain⟨d0,dj⟩:=hE0.ow.ds i v x hv hx;refine⟨⟨by omega,by omega⟩,?_⟩;rw[cW];refine⟨_,hc 9 _ rfl,?_⟩;obtain⟨g1,hE1⟩:=hE0.setS (x':={ x with num:=x.num+1 }) (v':={ v with num:=x.num+1 }) (k:=9) (vs:=[.int .i64 (x.num+1)]) hv hx rfl (by simp) rfl ⟨rfl,rfl,rfl⟩ rfl ⟨d0.id,d0.s,d0.sec,d0.held,rfl,d0.ran⟩;have evn:bh .i64 v.num 1=x.num+1:=by rw[d0.num,enum]
 rw[evn];refine⟨g1,?_⟩;rw[cO];generalize wr (bump m4 1) b (o+Int.toNat (i:Int)*11+9) [.int .i64 (x.num+1)]=m5 at hE1;have hv1:=dZ (y:={ v with num:=x.num+1 }) hv;have hx1:=dZ (y:={ x with num:=x.num+1 }) hx;obtain⟨b',o',e,_,hc1⟩:=hE1.ow.atS hv1;cases e;refine⟨_,hc1 9 _ rfl,?_⟩;refine O9 hE1.wf (hp.keep hw hE1.ow.keep) hpg fun m6 aj cj k6 hAj hnj=>?_
 rw[j1]at hAj ⊢;simp only[cond_true];have hAj:Arr encP 2 m6 aj np p:=by
  rcases hAj with h|h
  .exact h
  .cases h
 refine⟨_,_,_,_,_,_,_,rfl,?_⟩;have hE2:=hE1.then k6;obtain⟨lam3,hE3,hlp,hch⟩:=hE2.hold tL (by omega) hAj (fun b hb=>.inl (hE1.ow.noNew (hnj b hb))) (fun b hb hs=>by cases hs);have hlb3:lam3 b = .sv:=by rw[(hch b).2 (by rw[hlb];simp)];exact hlb
 obtain⟨b',o',e,_,hc3⟩:=(hE3.then ((Keep.refl hE3.wf).bump (n:=12))).ow.atS hv1;cases e;refine⟨_,_,_,hc3 6 _ rfl,?_⟩;have x61:(bump m6 1).nx=m6.nx+1:=rfl;have kP:Keep m6 (addO (bump m6 12) ((bump m6 1).nx+6) (row [.int .i64 (x.num+1),.slice aj np cj,.int .i64 0,.int .i64 0] fH false)):=((Keep.refl hE3.wf).bump (n:=12)).addO (by omega) (by show (bump m6 1).nx+6<m6.nx+12;omega);have hRj:Row (addO (bump m6 12) ((bump m6 1).nx+6) (row [.int .i64 (x.num+1),.slice aj np cj,.int .i64 0,.int .i64 0] fH false)) ((bump m6 1).nx+6) (encJ ⟨x.num+1,aj,np,cj,0,0⟩) fH false:=Row.of_row (by rw[gJ,if_pos rfl];rfl);generalize addO (bump m6 12) ((bump m6 1).nx+6) (row [.int .i64 (x.num+1),.slice aj np cj,.int .i64 0,.int .i64 0] fH false)=m7 at kP hRj;have hE4:=hE3.then kP;have hd:DpJob m7 lam3 ⟨x.num+1,aj,np,cj,0,0⟩ ⟨x.num+1,p,0,0⟩:=⟨rfl,rfl,rfl,hAj.keep hE3.wf kP,hlp⟩;have hjv:v.jn<=900000:=by
  have h1:=(hE0.ow.jb i v hv).arr fh;have h2:=dj.len;have h3:v.jn=x.jobs.length:=by rw[<-h2,h1.1]
  omega
 obtain⟨m8,r1,r2,hE5⟩:=hE4.pushJ (jx:=⟨x.num+1,p,0,0⟩) (xa:=some ⟨(bump m6 1).nx+6,0,none⟩) hv1 hx1 rfl rfl (hRj.first1 rfl) hd hjv;refine⟨_,_,_,m8,r1,r2,?_⟩;rw[cO,cO];have hno7:lam3 m7.nx = .no:=hE4.ow.noNew (gQ4 _);have hlb5:il lam3 m7.nx (.jb i) b = .sv:=by rw[eV (fun e=>by rw[e,hno7]at hlb3;cases hlb3)];exact hlb3
 have hst:({ ({ σ with servs:=σ.servs.set i { x with num:=x.num+1 } }:pm.St)with servs:=(({ σ with servs:=σ.servs.set i { x with num:=x.num+1 } }:pm.St).servs).set i { ({ x with num:=x.num+1 }:pm.Serv)with jobs:=({ x with num:=x.num+1 }:pm.Serv).jobs++[⟨x.num+1,p,0,0⟩] } }:pm.St) = { σ with servs:=σ.servs.set i { x with num:=x.num+1,jobs:=x.jobs++[⟨x.num+1,p,0,0⟩] } }:=by
  simp[List.set_set]
 have hE5:=hE5.cast hst rfl;generalize wr m8 b (o+Int.toNat (i:Int)*11+6) [.slice (some ⟨m7.nx,0,none⟩) (v.jn+1) (v.jn+1)]=m9 at hE5;generalize il lam3 m7.nx (.jb i)=lam5 at *;have hv5:=dZ (y:={ v with num:=x.num+1,ja:=some ⟨m7.nx,0,none⟩,jn:=v.jn+1,jc:=v.jn+1 }) hv1;have hx5:=dZ (y:={ x with num:=x.num+1,jobs:=x.jobs++[⟨x.num+1,p,0,0⟩] }) hx;have k9:Keep m9 (bump m9 9):=(Keep.refl hE5.wf).bump;obtain⟨b',o',e,_,hc5⟩:=(hE5.then k9).ow.atS hv5;cases e;refine⟨_,hc5 9 _ rfl,?_⟩;refine ul k9.wf fun m10 k10=>⟨_,_,_,_,rfl,?_⟩
 rw[cO];have x9:(bump m9 9).nx=m9.nx+9:=rfl;have x10:=k10.nx;have k11:Keep m9 (addO m10 (m9.nx+7) (row [.int .i64 now,.int .i64 1,.int .i64 id,.int .i64 (x.num+1)] t_model_Event false)):=(k9.trans k10).addO (by omega) (by omega);have hRe:Row (addO m10 (m9.nx+7) (row [.int .i64 now,.int .i64 1,.int .i64 id,.int .i64 (x.num+1)] t_model_Event false)) (m9.nx+7) (encEv ⟨now,1,id,x.num+1⟩) t_model_Event false:=Row.of_row (by rw[gJ,if_pos rfl];rfl);generalize addO m10 (m9.nx+7) (row [.int .i64 now,.int .i64 1,.int .i64 id,.int .i64 (x.num+1)] t_model_Event false)=m11 at k11 hRe;have hE6:=hE5.then k11;have x11:=k11.nx;have hbl:b<m9.nx:=hE5.ow.lab b (by rw[hlb5];simp);have erel:pm.release σ id p=(bif !x.idle then ({ σ with servs:=σ.servs.set i { x with num:=x.num+1,jobs:=x.jobs++[⟨x.num+1,p,0,0⟩] } },[pm.dS σ 1 id (x.num+1)],0) else
   bif dT (pm.gz x.s σ.now).2 0 then (σ,[],(pm.gz x.s σ.now).2) else
   ({ σ with servs:=σ.servs.set i { x with num:=x.num+1,jobs:=x.jobs++[⟨x.num+1,p,0,0⟩],s:=(pm.gz x.s σ.now).1 } },[pm.dS σ 1 id (x.num+1),pm.dS σ 9 id 0],0)):=by
  unfold pm.release;rw[h1,h2,hi,hx];simp only[h3,enum,j1];rfl
 refine dL (fun f:Option Addr->Nat->Nat->Mem->Prop=>∀a n c mm τ evs lam ss js ls qs,OwE (fun _=>.own true) (fun _=>.own true) m mm lam (some ⟨b,o,none⟩) n1 d1 b2 n2 d2 b3 n3 d3 ss js ls qs τ none 0 0 []->Arr encEv 4 mm a n evs->n<=2->pm.release σ id p=(τ,evs,0)->τ.m = σ.m->τ.now = σ.now->f a n c mm) ?_ ?_
 .intro a n c mm τ evs lam' ss' js' ls' qs' hE' hA' hn' he em' en';rw[he]at h;exact h mm _ _ _ _ _ _ a n c hE'.ow.keep (hE'.ow.reads (by rw[em'];exact hσ.em) (by rw[en'];exact en) iN) hA' hn'
 .intro J hJ;obtain⟨b',o',e,_,hc6⟩:=hE6.ow.atS hv5;cases e;refine⟨_,hc6 0 _ rfl,_,hc6 1 _ rfl,_,hc6 2 _ rfl,_,hc6 3 _ rfl,_,hc6 4 _ rfl,_,hc6 5 _ rfl,_,_,_,hc6 6 _ rfl,_,hc6 7 _ rfl,_,hc6 8 _ rfl,_,hc6 9 _ rfl,_,hc6 10 _ rfl,?_⟩;refine Di hE6.wf fun m13 k13=>⟨_,rfl,?_⟩
  have evs:v.s=x.s:=d0.s;have eid:cT v.s.mode 0=x.idle:=by unfold pm.Serv.idle;rw[evs]
  rw[eid];have hE7:=hE6.then k13;have hRe7:=k13.row hE6.wf hRe;have hAe:∀mm,Row mm (m9.nx+7) (encEv ⟨now,1,id,x.num+1⟩) t_model_Event false->Arr encEv 4 mm (some ⟨m9.nx+7,0,none⟩) 1 [pm.dS σ 1 id (x.num+1)]:=fun mm hR=>by
   have:=Arr.of_row fo (l:=[(⟨now,1,id,x.num+1⟩:pm.Ev)]) (m:=mm) (b:=m9.nx+7) (by simpa using hR);unfold pm.dS;rw[<-en];exact this
  refine cJ (fun h4=>?_) (fun h4=>?_)
  .rw[h4]at erel;simp only[Bool.not_true,cond_false]at erel;have k3':Keep m13 (bump m13 13):=(Keep.refl hE7.wf).bump;obtain⟨b',o',e,_,hc7⟩:=(hE7.then k3').ow.atS hv5;cases e;refine⟨_,hc7 1 _ rfl,_,hc7 2 _ rfl,_,hc7 3 _ rfl,_,hc7 4 _ rfl,_,hc7 5 _ rfl,?_⟩;refine Nc k3'.wf fun m14 k14=>⟨_,_,_,_,_,_,rfl,?_⟩
   have ev:(⟨v.s.q,v.s.p,v.s.bud,v.s.due,v.s.mode⟩:pm.Srv)=x.s:=d0.s;rw[ev];rw[show pm.gz x.s σ.now=pm.gz x.s now by rw[en]]at erel;generalize hW:pm.gz x.s now=W at *;have x14:=k14.nx;have x13:(bump m13 13).nx=m13.nx+13:=rfl;have kA:Keep m13 (addO m14 (m13.nx+10) (row [.int .i64 (0:Int),.int .i64 (0:Int),.int .i64 (0:Int),.int .i64 (0:Int),.int .i64 (0:Int)] eZ false)):=(k3'.trans k14).addO (by omega) (by omega);have hR:Row (addO m14 (m13.nx+10) (row [.int .i64 (0:Int),.int .i64 (0:Int),.int .i64 (0:Int),.int .i64 (0:Int),.int .i64 (0:Int)] eZ false)) (m13.nx+10) [.int .i64 (0:Int),.int .i64 (0:Int),.int .i64 (0:Int),.int .i64 (0:Int),.int .i64 (0:Int)] eZ false:=Row.of_row (by rw[gJ,if_pos rfl]);generalize addO m14 (m13.nx+10) (row [.int .i64 (0:Int),.int .i64 (0:Int),.int .i64 (0:Int),.int .i64 (0:Int),.int .i64 (0:Int)] eZ false)=m15 at kA hR;refine⟨hR.okW (by have:=kA.fl;have:=hE7.wf.1;omega) (by simp),?_⟩;rw[cO,cO];have hR2:=hR.wr (o:=0) (vs:=[.int .i64 W.1.q,.int .i64 W.1.p,.int .i64 W.1.bud,.int .i64 W.1.due,.int .i64 W.1.mode]) (by simp);change Row _ _ [.int .i64 W.1.q,.int .i64 W.1.p,.int .i64 W.1.bud,.int .i64 W.1.due,.int .i64 W.1.mode] _ _ at hR2;have kB:Keep m13 (wr m15 (m13.nx+10) 0 [.int .i64 W.1.q,.int .i64 W.1.p,.int .i64 W.1.bud,.int .i64 W.1.due,.int .i64 W.1.mode]):=kA.wr (by omega);generalize wr m15 (m13.nx+10) 0 [.int .i64 W.1.q,.int .i64 W.1.p,.int .i64 W.1.bud,.int .i64 W.1.due,.int .i64 W.1.mode]=m16 at kB hR2;have hE8:=hE7.then kB;refine cJ (fun h5=>?_) (fun h5=>?_)
   .rw[h5,cond_true]at erel;exact same m16 _ hE8.ow.keep erel
   .rw[h5,cond_false]at erel;refine⟨_,by rw[hR2.rd];rfl,_,by rw[hR2.rd];rfl,_,by rw[hR2.rd];rfl,_,by rw[hR2.rd];rfl,_,by rw[hR2.rd];rfl,?_⟩;obtain⟨d5,dj5⟩:=hE8.ow.ds i _ _ hv5 hx5;obtain⟨g9,hE9⟩:=hE8.setS (x':={ x with num:=x.num+1,jobs:=x.jobs++[⟨x.num+1,p,0,0⟩],s:=W.1 }) (v':={ v with num:=x.num+1,ja:=some ⟨m7.nx,0,none⟩,jn:=v.jn+1,jc:=v.jn+1,s:=W.1 }) (k:=1) (vs:=[.int .i64 W.1.q,.int .i64 W.1.p,.int .i64 W.1.bud,.int .i64 W.1.due,.int .i64 W.1.mode]) hv5 hx5 rfl (by simp) rfl ⟨rfl,rfl,rfl⟩ rfl ⟨d0.id,rfl,d0.sec,d0.held,rfl,d0.ran⟩;refine⟨g9,?_⟩;rw[cO];have hne:m9.nx+7≠b:=by omega
    have hRe9:Row (wr m16 b (o+Int.toNat (i:Int)*11+1) [.int .i64 W.1.q,.int .i64 W.1.p,.int .i64 W.1.bud,.int .i64 W.1.due,.int .i64 W.1.mode]) (m9.nx+7) (encEv ⟨now,1,id,x.num+1⟩) t_model_Event false:=(kB.row hE7.wf hRe7).congr (ln hne);generalize wr m16 b (o+Int.toNat (i:Int)*11+1) [.int .i64 W.1.q,.int .i64 W.1.p,.int .i64 W.1.bud,.int .i64 W.1.due,.int .i64 W.1.mode]=m17 at hE9 hRe9;refine ul hE9.wf fun m18 k18=>⟨_,_,_,_,rfl,?_⟩
    rw[cO];have k19:Keep m17 (newO m18 (row [.int .i64 now,.int .i64 9,.int .i64 id,.int .i64 0] t_model_Event false)):=k18.newO;have hRf:Row (newO m18 (row [.int .i64 now,.int .i64 9,.int .i64 id,.int .i64 0] t_model_Event false)) m18.nx [.int .i64 now,.int .i64 9,.int .i64 id,.int .i64 0] t_model_Event false:=Row.newO;generalize newO m18 (row [.int .i64 now,.int .i64 9,.int .i64 id,.int .i64 0] t_model_Event false)=m19 at k19 hRf;have hRe19:=k19.row hE9.wf hRe9;have hRe19':=hRe19;obtain⟨tr,hg,_⟩:=hRe19';have hap:=sE (cx:=cx) (t:=bJ) (e:=t_model_Event) (s:=4) (m:=m19) (n:=1) (k:=1) (c:=1) (ck:=1) (a:=some ⟨m9.nx+7,0,none⟩) (v:=some ⟨m18.nx,0,none⟩) (old:=encEv ⟨now,1,id,x.num+1⟩) (new:=[.int .i64 now,.int .i64 9,.int .i64 id,.int .i64 0]) (by kernel_rfl)
     (by unfold giveUp;simp only[hg]) (hRe19.first1 rfl) rfl (hRf.first1 rfl) rfl rfl (by omega) (by omega)
    refine⟨_,_,_,_,hap,?_⟩;have k20:Keep m19 (newO m19 (row (encEv ⟨now,1,id,x.num+1⟩++[.int .i64 now,.int .i64 9,.int .i64 id,.int .i64 0]) t_model_Event true)):=(Keep.refl k19.wf).newO;have hR20:Row (newO m19 (row (encEv ⟨now,1,id,x.num+1⟩++[.int .i64 now,.int .i64 9,.int .i64 id,.int .i64 0]) t_model_Event true)) m19.nx (([⟨now,1,id,x.num+1⟩,⟨now,9,id,0⟩]:List pm.Ev).flatMap encEv) t_model_Event true:=Row.newO;refine hJ _ 2 2 _ _ [pm.dS σ 1 id (x.num+1),pm.dS σ 9 id 0] _ _ _ _ _ ((hE9.then k19).then k20) ?_ (by omega) (erel.trans ?_) rfl rfl
    .unfold pm.dS;rw[<-en];exact Arr.of_row fo hR20
    .simp[List.set_set]
  .rw[h4]at erel;simp only[Bool.not_false,cond_true]at erel;exact hJ _ 1 1 m13 _ _ _ _ _ _ _ hE7 (hAe m13 hRe7) (by omega) erel rfl rfl
end
end Go.Proofs.YthpnifigjfplbaaGreat.vc
namespace Go.Proofs.YthpnifigjfplbaaGreat.vc
open Go Go.AX
set_option maxRecDepth 100000
noncomputable section
def nK(u t:Option Addr)(l v s w:Nat)(m:Mem)(Q:Value->Mem->Prop):Prop:=
 splitB (dT (aQ l) (aQ s)) (Q (.bool false) m) (∃c:Int->Mem->Nat->Prop,(∃r:Nat,c 0 m r)/\∀a b d,c a b d->splitB (cR a (aQ l)) ((0<=a/\a<((l:Nat):Int))/\(cZ u fun g i=>∃f,rd (bump b 9) g (i+Int.toNat a*2)=some (.int .i64 f)/\∃o,rd (bump b 9) g (i+Int.toNat a*2+1)=some (.int .i64 o)/\(0<=a/\a<((s:Nat):Int))/\(cZ t fun j e=>∃q,rd (bump b 9) j (e+Int.toNat a*2)=some (.int .i64 q)/\∃k,rd (bump b 9) j (e+Int.toNat a*2+1)=some (.int .i64 k)/\∃p,gj cx (bump b 9) 40 fY (.agg #[.int .i64 f,.int .i64 o]) (.agg #[.int .i64 q,.int .i64 k])=some p/\splitB (!p) (Q (.bool false) (bump b 9)) (∃n:Nat,n<d/\c (bh .i64 a 1) (bump b 9) n)))) (Q (.bool true) b))
theorem rW{u t:Option Addr}{l v s w:Nat}{m:Mem}{Q:Value->Mem->Prop}(h:nK u t l v s w m Q):ah cx jU [.slice u l v,.slice t s w] m Q:=
 ah.of (fn:=Tryz.f133) (LS:=[]) (ann:=[none,none,none,none,none,none,some ⟨[0,1,12],[(13,.int .i64)],[],[],[],0⟩]) di db (by kernel_rfl) (by kernel_rfl) (Eq.mp (by kernel_rfl) h)
def vf(n q j i e p:Int)(g d:Option Addr)(o f k l:Nat)(m:Mem)(Q:Value->Mem->Prop):Prop:=
 splitB (cT n i) (splitB (cT q e) (splitB (cT j p) (ah cx jU [.slice g o f,.slice d k l] (bump m 2) fun c b=>∃a,c=(.bool a)/\Q (.bool a) b) (Q (.bool false) (bump m 2))) (Q (.bool false) (bump m 2))) (Q (.bool false) (bump m 2))
theorem zj{n q j i e p:Int}{g d:Option Addr}{o f k l:Nat}{m:Mem}{Q:Value->Mem->Prop}(h:vf n q j i e p g d o f k l m Q):ah cx mU [.agg #[.int .i64 n,.slice g o f,.int .i64 q,.int .i64 j],.agg #[.int .i64 i,.slice d k l,.int .i64 e,.int .i64 p]] m Q:=
 ah.of (fn:=Tryz.f92) (LS:=[2,3]) (ann:=[]) di db (by kernel_rfl) (by kernel_rfl) (Eq.mp (by kernel_rfl) h)
def kW(E D:Option Addr)(y H B G:Nat)(F:Value)(m:Mem)(Q:Value->Mem->Prop):Prop:=
 splitB (dT (aQ y) (aQ B)) (Q (.bool false) m) (∃g:Int->Mem->Nat->Prop,(∃A:Nat,g 0 m A)/\∀a b i,g a b i->splitB (cR a (aQ y)) ((0<=a/\a<((y:Nat):Int))/\(cZ E fun c d=>∃z,rd b c (d+Int.toNat a*4)=some (.int .i64 z)/\∃p u n,rd b c (d+Int.toNat a*4+1)=some (.slice p u n)/\∃r,rd b c (d+Int.toNat a*4+2)=some (.int .i64 r)/\∃q,rd b c (d+Int.toNat a*4+3)=some (.int .i64 q)/\(0<=a/\a<((B:Nat):Int))/\(cZ D fun e f=>∃w,rd (bump b 1) e (f+Int.toNat a*4)=some (.int .i64 w)/\∃k x o,rd (bump b 1) e (f+Int.toNat a*4+1)=some (.slice k x o)/\∃t,rd (bump b 1) e (f+Int.toNat a*4+2)=some (.int .i64 t)/\∃v,rd (bump b 1) e (f+Int.toNat a*4+3)=some (.int .i64 v)/\(jJ cx (bump b 2) F [.agg #[.int .i64 z,.slice p u n,.int .i64 r,.int .i64 q],.agg #[.int .i64 w,.slice k x o,.int .i64 t,.int .i64 v]] fun C l=>∃s,C=(.bool s)/\splitB (!s) (Q (.bool false) l) (∃j:Nat,j<i/\g (bh .i64 a 1) l j))))) (Q (.bool true) b))
theorem pq{E D:Option Addr}{y H B G:Nat}{F:Value}{m:Mem}{Q:Value->Mem->Prop}(h:kW E D y H B G F m Q):ah cx it [.slice E y H,.slice D B G,F] m Q:=
 ah.of (fn:=Tryz.f91) (LS:=[8,9]) (ann:=[none,none,none,none,none,none,some ⟨[1,2,15,16],[(17,.int .i64)],[],[],[],0⟩]) di db (by kernel_rfl) (by kernel_rfl) (Eq.mp (by kernel_rfl) h)
def uv(z E n i t e A C j s w u p F r D q l x g:Int)(k f:Option Addr)(B v y o:Nat)(m:Mem)(Q:Value->Mem->Prop):Prop:=
 splitB (cT z w) (∃c,gj cx (bump m 2) 40 eZ (.agg #[.int .i64 E,.int .i64 n,.int .i64 i,.int .i64 t,.int .i64 e]) (.agg #[.int .i64 u,.int .i64 p,.int .i64 F,.int .i64 r,.int .i64 D])=some c/\splitB c (ah cx it [.slice k B v,.slice f y o,.func (.func mU) #[] #[]] (bump m 2) fun d a=>∃b,d=(.bool b)/\splitB b (splitB (cT A q) (splitB (cT C l) (splitB (cT j x) (Q (.bool (cT s g)) a) (Q (.bool false) a)) (Q (.bool false) a)) (Q (.bool false) a)) (Q (.bool false) a)) (Q (.bool false) (bump m 2))) (Q (.bool false) (bump m 2))
theorem xX{z E n i t e A C j s w u p F r D q l x g:Int}{k f:Option Addr}{B v y o:Nat}{m:Mem}{Q:Value->Mem->Prop}(h:uv z E n i t e A C j s w u p F r D q l x g k f B v y o m Q):ah cx mb [.agg #[.int .i64 z,.int .i64 E,.int .i64 n,.int .i64 i,.int .i64 t,.int .i64 e,.slice k B v,.int .i64 A,.int .i64 C,.int .i64 j,.int .i64 s],.agg #[.int .i64 w,.int .i64 u,.int .i64 p,.int .i64 F,.int .i64 r,.int .i64 D,.slice f y o,.int .i64 q,.int .i64 l,.int .i64 x,.int .i64 g]] m Q:=
 ah.of (fn:=Tryz.f42) (LS:=[2,3]) (ann:=[]) di db (by kernel_rfl) (by kernel_rfl) (Eq.mp (by kernel_rfl) h)
def lA(r q:Option Addr)(g s p t:Nat)(m:Mem)(Q:Value->Mem->Prop):Prop:=
 splitB (dT (aQ g) (aQ p)) (Q (.bool false) m) (∃c:Int->Mem->Nat->Prop,(∃n:Nat,c 0 m n)/\∀a b d,c a b d->splitB (cR a (aQ g)) ((0<=a/\a<((g:Nat):Int))/\(cZ r fun k l=>∃e,rd (bump b 9) k (l+Int.toNat a*1)=some (.int .i64 e)/\(0<=a/\a<((p:Nat):Int))/\(cZ q fun o j=>∃i,rd (bump b 9) o (j+Int.toNat a*1)=some (.int .i64 i)/\splitB (dT e i) (Q (.bool false) (bump b 9)) (∃f:Nat,f<d/\c (bh .i64 a 1) (bump b 9) f)))) (Q (.bool true) b))
theorem nJ{r q:Option Addr}{g s p t:Nat}{m:Mem}{Q:Value->Mem->Prop}(h:lA r q g s p t m Q):ah cx gS [.slice r g s,.slice q p t] m Q:=
 ah.of (fn:=Tryz.f38) (LS:=[]) (ann:=[none,none,none,none,none,none,some ⟨[0,1,12],[(13,.int .i64)],[],[],[],0⟩]) di db (by kernel_rfl) (by kernel_rfl) (Eq.mp (by kernel_rfl) h)
def uw(n q j d:Int)(i f:Option Addr)(p g k l:Nat)(o e:Bool)(m:Mem)(Q:Value->Mem->Prop):Prop:=
 splitB (cT n j) (splitB (cT q d) (ah cx gS [.slice i p g,.slice f k l] (bump m 2) fun c b=>∃a,c=(.bool a)/\splitB a (Q (.bool (o == e)) b) (Q (.bool false) b)) (Q (.bool false) (bump m 2))) (Q (.bool false) (bump m 2))
theorem xY{n q j d:Int}{i f:Option Addr}{p g k l:Nat}{o e:Bool}{m:Mem}{Q:Value->Mem->Prop}(h:uw n q j d i f p g k l o e m Q):ah cx mc [.agg #[.int .i64 n,.int .i64 q,.slice i p g,.bool o],.agg #[.int .i64 j,.int .i64 d,.slice f k l,.bool e]] m Q:=
 ah.of (fn:=Tryz.f44) (LS:=[2,3]) (ann:=[]) di db (by kernel_rfl) (by kernel_rfl) (Eq.mp (by kernel_rfl) h)
def jX(U T:Option Addr)(L X R W:Nat)(V:Value)(m:Mem)(Q:Value->Mem->Prop):Prop:=
 splitB (dT (aQ L) (aQ R)) (Q (.bool false) m) (∃g:Int->Mem->Nat->Prop,(∃P:Nat,g 0 m P)/\∀a b k,g a b k->splitB (cR a (aQ L)) ((0<=a/\a<((L:Nat):Int))/\(cZ U fun c d=>∃N,rd b c (d+Int.toNat a*11)=some (.int .i64 N)/\∃A,rd b c (d+Int.toNat a*11+1)=some (.int .i64 A)/\∃x,rd b c (d+Int.toNat a*11+2)=some (.int .i64 x)/\∃l,rd b c (d+Int.toNat a*11+3)=some (.int .i64 l)/\∃q,rd b c (d+Int.toNat a*11+4)=some (.int .i64 q)/\∃G,rd b c (d+Int.toNat a*11+5)=some (.int .i64 G)/\∃w C r,rd b c (d+Int.toNat a*11+6)=some (.slice w C r)/\∃i,rd b c (d+Int.toNat a*11+7)=some (.int .i64 i)/\∃H,rd b c (d+Int.toNat a*11+8)=some (.int .i64 H)/\∃v,rd b c (d+Int.toNat a*11+9)=some (.int .i64 v)/\∃j,rd b c (d+Int.toNat a*11+10)=some (.int .i64 j)/\(0<=a/\a<((R:Nat):Int))/\(cZ T fun e f=>∃F,rd (bump b 1) e (f+Int.toNat a*11)=some (.int .i64 F)/\∃D,rd (bump b 1) e (f+Int.toNat a*11+1)=some (.int .i64 D)/\∃M,rd (bump b 1) e (f+Int.toNat a*11+2)=some (.int .i64 M)/\∃o,rd (bump b 1) e (f+Int.toNat a*11+3)=some (.int .i64 o)/\∃z,rd (bump b 1) e (f+Int.toNat a*11+4)=some (.int .i64 z)/\∃I,rd (bump b 1) e (f+Int.toNat a*11+5)=some (.int .i64 I)/\∃n K s,rd (bump b 1) e (f+Int.toNat a*11+6)=some (.slice n K s)/\∃u,rd (bump b 1) e (f+Int.toNat a*11+7)=some (.int .i64 u)/\∃E,rd (bump b 1) e (f+Int.toNat a*11+8)=some (.int .i64 E)/\∃y,rd (bump b 1) e (f+Int.toNat a*11+9)=some (.int .i64 y)/\∃O,rd (bump b 1) e (f+Int.toNat a*11+10)=some (.int .i64 O)/\(jJ cx (bump b 2) V [.agg #[.int .i64 N,.int .i64 A,.int .i64 x,.int .i64 l,.int .i64 q,.int .i64 G,.slice w C r,.int .i64 i,.int .i64 H,.int .i64 v,.int .i64 j],.agg #[.int .i64 F,.int .i64 D,.int .i64 M,.int .i64 o,.int .i64 z,.int .i64 I,.slice n K s,.int .i64 u,.int .i64 E,.int .i64 y,.int .i64 O]] fun S p=>∃B,S=(.bool B)/\splitB (!B) (Q (.bool false) p) (∃t:Nat,t<k/\g (bh .i64 a 1) p t))))) (Q (.bool true) b))
theorem od{U T:Option Addr}{L X R W:Nat}{V:Value}{m:Mem}{Q:Value->Mem->Prop}(h:jX U T L X R W V m Q):ah cx gL [.slice U L X,.slice T R W,V] m Q:=
 ah.of (fn:=Tryz.f41) (LS:=[8,9]) (ann:=[none,none,none,none,none,none,some ⟨[1,2,15,16],[(17,.int .i64)],[],[],[],0⟩]) di db (by kernel_rfl) (by kernel_rfl) (Eq.mp (by kernel_rfl) h)
def jY(E D:Option Addr)(y H B G:Nat)(F:Value)(m:Mem)(Q:Value->Mem->Prop):Prop:=
 splitB (dT (aQ y) (aQ B)) (Q (.bool false) m) (∃g:Int->Mem->Nat->Prop,(∃A:Nat,g 0 m A)/\∀a b i,g a b i->splitB (cR a (aQ y)) ((0<=a/\a<((y:Nat):Int))/\(cZ E fun c d=>∃z,rd b c (d+Int.toNat a*4)=some (.int .i64 z)/\∃s,rd b c (d+Int.toNat a*4+1)=some (.int .i64 s)/\∃q v o,rd b c (d+Int.toNat a*4+2)=some (.slice q v o)/\∃j,rd b c (d+Int.toNat a*4+3)=some (.bool j)/\(0<=a/\a<((B:Nat):Int))/\(cZ D fun e f=>∃w,rd (bump b 1) e (f+Int.toNat a*4)=some (.int .i64 w)/\∃k,rd (bump b 1) e (f+Int.toNat a*4+1)=some (.int .i64 k)/\∃l x p,rd (bump b 1) e (f+Int.toNat a*4+2)=some (.slice l x p)/\∃r,rd (bump b 1) e (f+Int.toNat a*4+3)=some (.bool r)/\(jJ cx (bump b 2) F [.agg #[.int .i64 z,.int .i64 s,.slice q v o,.bool j],.agg #[.int .i64 w,.int .i64 k,.slice l x p,.bool r]] fun C n=>∃u,C=(.bool u)/\splitB (!u) (Q (.bool false) n) (∃t:Nat,t<i/\g (bh .i64 a 1) n t))))) (Q (.bool true) b))
theorem oe{E D:Option Addr}{y H B G:Nat}{F:Value}{m:Mem}{Q:Value->Mem->Prop}(h:jY E D y H B G F m Q):ah cx gM [.slice E y H,.slice D B G,F] m Q:=
 ah.of (fn:=Tryz.f43) (LS:=[8,9]) (ann:=[none,none,none,none,none,none,some ⟨[1,2,15,16],[(17,.int .i64)],[],[],[],0⟩]) di db (by kernel_rfl) (by kernel_rfl) (Eq.mp (by kernel_rfl) h)
def lE(u t:Option Addr)(l v s w:Nat)(m:Mem)(Q:Value->Mem->Prop):Prop:=
 splitB (dT (aQ l) (aQ s)) (Q (.bool false) m) (∃c:Int->Mem->Nat->Prop,(∃r:Nat,c 0 m r)/\∀a b d,c a b d->splitB (cR a (aQ l)) ((0<=a/\a<((l:Nat):Int))/\(cZ u fun g i=>∃f,rd (bump b 9) g (i+Int.toNat a*2)=some (.int .i64 f)/\∃o,rd (bump b 9) g (i+Int.toNat a*2+1)=some (.int .i64 o)/\(0<=a/\a<((s:Nat):Int))/\(cZ t fun j e=>∃q,rd (bump b 9) j (e+Int.toNat a*2)=some (.int .i64 q)/\∃k,rd (bump b 9) j (e+Int.toNat a*2+1)=some (.int .i64 k)/\∃p,gj cx (bump b 9) 40 dk (.agg #[.int .i64 f,.int .i64 o]) (.agg #[.int .i64 q,.int .i64 k])=some p/\splitB (!p) (Q (.bool false) (bump b 9)) (∃n:Nat,n<d/\c (bh .i64 a 1) (bump b 9) n)))) (Q (.bool true) b))
theorem pP{u t:Option Addr}{l v s w:Nat}{m:Mem}{Q:Value->Mem->Prop}(h:lE u t l v s w m Q):ah cx iD [.slice u l v,.slice t s w] m Q:=
 ah.of (fn:=Tryz.f45) (LS:=[]) (ann:=[none,none,none,none,none,none,some ⟨[0,1,12],[(13,.int .i64)],[],[],[],0⟩]) di db (by kernel_rfl) (by kernel_rfl) (Eq.mp (by kernel_rfl) h)
def zk(C w A y:Int)(o F D n s r:Option Addr)(E z k t l x B q v G p u:Nat)(m:Mem)(Q:Value->Mem->Prop):Prop:=
 splitB (cT C A) (splitB (cT w y) (ah cx gL [.slice o E z,.slice n B q,.func (.func mb) #[] #[]] (bump m 2) fun i e=>∃a,i=(.bool a)/\splitB a (ah cx gM [.slice F k t,.slice s v G,.func (.func mc) #[] #[]] e fun j b=>∃d,j=(.bool d)/\splitB d (ah cx iD [.slice D l x,.slice r p u] b fun g f=>∃c,g=(.bool c)/\Q (.bool c) f) (Q (.bool false) b)) (Q (.bool false) e)) (Q (.bool false) (bump m 2))) (Q (.bool false) (bump m 2))
theorem CM{C w A y:Int}{o F D n s r:Option Addr}{E z k t l x B q v G p u:Nat}{m:Mem}{Q:Value->Mem->Prop}(h:zk C w A y o F D n s r E z k t l x B q v G p u m Q):ah cx uj [.agg #[.int .i64 C,.int .i64 w,.slice o E z,.slice F k t,.slice D l x],.agg #[.int .i64 A,.int .i64 y,.slice n B q,.slice s v G,.slice r p u]] m Q:=
 ah.of (fn:=Tryz.f18) (LS:=[2,3]) (ann:=[]) di db (by kernel_rfl) (by kernel_rfl) (Eq.mp (by kernel_rfl) h)
end
end Go.Proofs.YthpnifigjfplbaaGreat.vc
