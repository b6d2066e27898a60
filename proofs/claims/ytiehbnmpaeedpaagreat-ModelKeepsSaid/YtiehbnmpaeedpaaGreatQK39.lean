import Derived.Test.YtiehbnmpaeedpaaGreatQK37
import Derived.Test.YtiehbnmpaeedpaaGreatQK26
import Derived.Test.YtiehbnmpaeedpaaGreatQK30
import Derived.Test.YtiehbnmpaeedpaaGreatQK27
set_option linter.unusedVariables false
set_option linter.unusedSimpArgs false
set_option linter.unusedSectionVars false
namespace Go.Proofs.YtiehbnmpaeedpaaGreat.vc
open Go Go.AX
section
variable {B:Int}{m0 m:Mem}{Q:Value->Mem->Prop}{M now:Int}{a1 a2 a3:Option Addr}{n1 c1 n2 c2 n3 c3:Nat}{σ : pm.St}
theorem KC(h:Q (.bool true) m):ah cx kJ [] m Q:=ah.ov ez Ks rfl h
theorem Nm:ActT Tryz.prog B0 (match Tryz.prog.underlying B0 with|some (.struct fs)=>fs|_=>#[]) where
 he:=by kernel_rfl
 hone:=by kernel_rfl
 hC:=by kernel_rfl
 hs:=by kernel_rfl
 ints:=fun j hj=>match j,hj with
  | 0,_=>⟨fg,by kernel_rfl,Tryz.underlying3⟩
  | 1,_=>⟨fg,by kernel_rfl,Tryz.underlying3⟩
  | 2,_=>⟨oz,by kernel_rfl,Tryz.underlying2⟩
  | 3,_=>⟨oz,by kernel_rfl,Tryz.underlying2⟩
  | 4,_=>⟨oz,by kernel_rfl,Tryz.underlying2⟩
 steps:=⟨A6,gW,fg,oz,(match Tryz.prog.underlying gW with|some (.struct fs)=>fs|_=>#[]),by kernel_rfl,by kernel_rfl,by kernel_rfl,by kernel_rfl,by kernel_rfl,by kernel_rfl,by kernel_rfl,Tryz.underlying3,by kernel_rfl,Tryz.underlying2⟩
end
end Go.Proofs.YtiehbnmpaeedpaaGreat.vc
namespace Go.Proofs.YtiehbnmpaeedpaaGreat.vc
open Go Go.AX
section
variable {m:Mem}{a1 a2 a3:Option Addr}{n1 c1 n2 c2 n3 c3:Nat}
theorem ye(n:Int):AX.mapKey cx fX (.int .i64 n)=some (.int .i64,oz):=by kernel_rfl
theorem II:fN cx oz=some (.int .i64 0):=by kernel_rfl
theorem yS{m0 u mm:Mem}{r1 r2 r3:Nat}{W U D:Int->Int}{M now:Int}{σ : pm.St}(h:MapsS m0 u mm r1 r2 r3 W U D)(hσ : RdSt cx u M now a1 n1 a2 n2 a3 n3 c3 σ):∃ss ls,Arr encS 11 mm a1 n1 ss/\All2 (RdServ u) ss σ.servs/\Arr encL 4 mm a2 n2 ls/\All2 (RdLock u) ls σ.sems:=by
 obtain⟨ss,x1,x2⟩:=hσ.servs;obtain⟨ls,y1,y2⟩:=hσ.sems;exact⟨ss,ls,h.arr x1,x2,h.arr y1,y2⟩
theorem lU{k:Nat}(h:k<=1000000):aJ .i64 (k:Int) 1=((k+1:Nat):Int):=by
 rw[fq (by omega) (by omega)];rfl
theorem oC{a b:Nat}(h:b<a):a-(b+1)<a-b:=by omega
structure NoteJ (servs:List pm.Serv)(W U D:Int->Int)(j:Nat)(W1 U1 D1:Int->Int):Prop where
 did:∀(i:Nat) x,i<j->servs[i]? = some x->W1 x.id=(if x.sec=1 then W x.id+1 else 0)/\pm.Us (U1 x.id) (D1 x.id) x.s
 not:∀id,(∀(i:Nat) x,i<j->servs[i]? = some x->x.id≠id)->W1 id=W id/\U1 id=U id/\D1 id=D id
theorem NoteJ.zero{servs:List pm.Serv}{W U D:Int->Int}:NoteJ servs W U D 0 W U D:=⟨fun i x h=>by omega,fun _ _=>⟨rfl,rfl,rfl⟩⟩
theorem NoteJ.next{servs:List pm.Serv}{W U D W1 U1 D1 W2 U2 D2:Int->Int}{j:Nat}{x:pm.Serv}(hr:Rise servs)(h:NoteJ servs W U D j W1 U1 D1)(hx:servs[j]? = some x)
  (hW:W2 x.id=(if x.sec=1 then W1 x.id+1 else 0))(hU:pm.Us (U2 x.id) (D2 x.id) x.s)(ho:∀id,id≠x.id->W2 id=W1 id/\U2 id=U1 id/\D2 id=D1 id):NoteJ servs W U D (j+1) W2 U2 D2:=by
 have hne:∀(i:Nat) y,i<j->servs[i]? = some y->y.id≠x.id:=fun i y hi hy e=>by have:=hr.lt hi hy hx;omega
 refine⟨fun i y hi hy=>?_,fun id hid=>?_⟩
 .by_cases e:i=j
  .subst e;rw[hx]at hy;cases hy;rw[<-(h.not x.id fun i y hi hy=>hne i y hi hy).1];exact⟨hW,hU⟩
  .have hi':i<j:=by omega
   obtain⟨a,b,c⟩:=ho y.id (hne i y hi' hy);rw[a,b,c];exact h.did i y hi' hy
 .have hx':id≠x.id:=fun e=>hid j x (by omega) hx e.symm
  obtain⟨a,b,c⟩:=ho id hx';obtain⟨d,e,f⟩:=h.not id fun i y hi hy=>hid i y (by omega) hy
  exact⟨a.trans d,b.trans e,c.trans f⟩
theorem IJ{x0:Int}{most:List Int}{l:List AV}{A:List pm.Act}(hw:Wf m)(hm:Arr encI 1 m a1 n1 most)(hl:Arr I1 6 m a2 n2 l)(hA:All2 (RdAct m) l A) :
  ah cx sy [.int .i64 x0,.slice a1 n1 c1,.slice a2 n2 c2] m fun r _=>r = .bool true:=by
 apply vF;unfold sA;have hlA:A.length=n2:=by rw[<-hA.len,hl.1]
 refine KC ⟨true,rfl,eV (fun h=>by cases h) (fun _=>?_)⟩;refine zn hw hm (fun m1 k1 hne _=>⟨_,_,_,_,_,_,_,_,_,_,_,_,rfl,?_⟩) (fun m1 b2 d2 k1 he hR=>⟨_,_,_,_,_,_,_,_,_,_,_,_,rfl,?_⟩)
 .exact fJ (fun _=>True) trivial fun J _=>rq (fun _=>rfl) (fun e=>absurd e (by decide))
 .obtain⟨hI,he2,_⟩:=pm.HQ he;have hG0:=pm.Ml he;have hM:(pm.new x0 most).1.m=x0:=by rw[he2]
  have h0:(pm.new x0 most).1.now=0:=by rw[he2]
  generalize (pm.new x0 most).1 = σ at hI hR hM hG0 h0;refine fJ (fun f:Mem->Prop=>n2<=30->f (bump m1 1)) ?_ ?_
  .intro hn2;have kb:Keep m1 (bump m1 1):=(Keep.refl k1.wf).bump;rw[dh,dh,dh];have hB:=MapsS.begin kb.wf (k1.trans kb);have kb3:Keep m1 (bump (bump m1 1) 3):=kb.bump;have hR3:=hR.keep k1.wf kb3;generalize newO (newO (newO (bump m1 1) (.map [] 0)) (.map [] 0)) (.map [] 0)=mm0 at hB;generalize (newO (newO (bump m1 1) (.map [] 0)) (.map [] 0)).nx=r3 at hB;generalize (newO (bump m1 1) (.map [] 0)).nx=r2 at hB;generalize (bump m1 1).nx=r1 at hB;refine⟨fun x12 xc xc1 ac nc cc ac2 nc2 cc2 ac3 nc3 cc3 mm w=>∃(k:Nat) (τ : pm.St)(u:Mem)(W U D:Int->Int),x12=(k:Int)/\k<=n2/\w=n2-k/\xc=x0/\MapsS m u mm r1 r2 r3 W U D/\RdSt cx u x0 xc1 ac nc ac2 nc2 ac3 nc3 cc3 τ/\pm.Iv (k:Int) τ/\pm.Gh τ W U D/\τ.now<=80*k,
    ⟨n2,0,σ,_,_,_,_,rfl,Nat.zero_le _,rfl,rfl,hB,hR3,hI,hG0,by omega⟩,?_⟩
   rintro x12 xc xc1 ac nc cc ac2 nc2 cc2 ac3 nc3 cc3 mm w ⟨k,τ,u,W,U,D,rfl,hk,rfl,rfl,hMp,hS,hIk,hG,hnow⟩;refine fu (fun hlt=>?_) (fun hge=>rfl);obtain⟨v,hv⟩:∃v,l[k]? = some v:=⟨_,List.getElem?_eq_getElem (by have:=hl.1;omega)⟩;obtain⟨X',hX',hr⟩:=hA.get hv;obtain⟨op,who,q,p,n,steps⟩:=X';obtain⟨o1,o2,o3,o4,o5,oa,on,oc⟩:=v;obtain⟨z1,z2,z3,z4,z5,hst⟩:=hr;simp only at z1 z2 z3 z4 z5 hst;subst z1 z2 z3 z4 z5;have hBk:(k:Int)<4611686018427387904:=by omega
   have ek1:((k+1:Nat):Int)=(k:Int)+1:=by omega
   refine(hl.keep hw hMp.keep).open (k:=k) hv fun b o hc=>⟨o1,hc 0 _ rfl,o2,hc 1 _ rfl,o3,hc 2 _ rfl,o4,hc 3 _ rfl,o5,hc 4 _ rfl,oa,on,oc,hc 5 _ rfl,?_⟩
   refine fK (fun _=>rfl) (fun _=>?_);have hMp1:=hMp.bump (n:=1);have ku1:Keep u (bump u 1):=(Keep.refl hMp.wu).bump;have hS1:=hS.keep hMp.wu ku1;refine bQ (fun c0=>?_) (fun c0=>bQ (fun c2=>?_) (fun c2=>?_))
   ·
    refine hMp1.callV eF (R:=fun r u'=>∃b1 n1' d1 b2 d2 b3 d3,r=(.tuple #[.agg #[.int .i64 xc,.int .i64 xc1,.slice b1 n1' d1,.slice b2 nc2 d2,.slice b3 nc3 d3],.int .i64 (pm.add τ o2 o3 o4).2])/\RdSt cx u' xc xc1 b1 n1' b2 nc2 b3 nc3 d3 (pm.add τ o2 o3 o4).1) (zm hMp1.wu hS1 hIk fun m' b1 n1' d1 b2 d2 b3 d3 k' hR'=>⟨k',b1,n1',d1,b2,d2,b3,d3,rfl,hR'⟩) ?_;rintro r u' mm' hM' ku' ⟨b1,n1',d1,b2,d2,b3,d3,rfl,hR'⟩;have hI':=(pm.HR hIk (by omega) o2 o3 o4);exact⟨_,_,_,_,_,_,_,_,_,_,_,_,rfl,n2-(k+1),oC hlt,k+1,_,u',W,U,D,lU (by omega),hlt,rfl,rfl,hM',hR',hI'.1.mono (by omega),pm.Mm hIk (by omega) hG o2 o3 o4,by rw[hI'.2.2.1];omega⟩
   ·
    refine hMp1.callV eF (R:=fun r u'=>∃b1 d1 b2 d2 b3 d3 ae ne ce,r=(.tuple #[.agg #[.int .i64 xc,.int .i64 xc1,.slice b1 nc d1,.slice b2 nc2 d2,.slice b3 nc3 d3],.slice ae ne ce,.int .i64 (pm.release τ o2 steps).2.2])/\RdSt cx u' xc xc1 b1 nc b2 nc2 b3 nc3 d3 (pm.release τ o2 steps).1) (GW hMp1.wu hS1 hIk hBk (hst.keep hw hMp1.k) fun m' b1 d1 b2 d2 b3 d3 ae ne ce k' hR' _ _=>⟨k',b1,d1,b2,d2,b3,d3,ae,ne,ce,rfl,hR'⟩) ?_;rintro r u' mm' hM' ku' ⟨b1,d1,b2,d2,b3,d3,ae,ne,ce,rfl,hR'⟩;have hI':=(pm.zB hIk hBk o2 steps);exact⟨_,_,_,_,_,_,_,_,_,_,_,_,_,_,_,rfl,n2-(k+1),oC hlt,k+1,_,u',W,U,D,lU (by omega),hlt,rfl,rfl,hM',hR',by rw[ek1];exact hI'.1,pm.Gs hIk hBk hG o2 steps,by rw[hI'.2.2.1];omega⟩
   ·
    refine⟨fun x14 yc yc1 bc oc dc bc2 oc2 dc2 bc3 oc3 dc3 mt w=>∃(t:Nat)(ut:Mem)(Wt Ut Dt:Int->Int),x14=(t:Int)/\t<=min o5.toNat 80/\w=80-t/\yc=xc/\MapsS m ut mt r1 r2 r3 Wt Ut Dt/\RdSt cx ut xc yc1 bc oc bc2 oc2 bc3 oc3 dc3 (pm.gf t τ)/\pm.Gh (pm.gf t τ) Wt Ut Dt,
     ⟨80,0,_,W,U,D,rfl,Nat.zero_le _,rfl,rfl,hMp1,hS1,hG⟩,?_⟩
    rintro x14 yc yc1 bc oc dc bc2 oc2 dc2 bc3 oc3 dc3 mt w ⟨t,ut,Wt,Ut,Dt,rfl,ht,rfl,rfl,hMt,hSt,hGt⟩;obtain⟨hIt,_,_,hnt1,hnt2⟩:=pm.Di hIk t;have hnlt:(pm.gf t τ).now<4611686018427387904:=by omega
    have hnsm:(pm.gf t τ).now<=100000:=by omega
    refine fJ (fun f:Mem->Prop=>t<min o5.toNat 80->f mt) ?_ ?_
    .intro htl;have hMt1:=hMt.bump (n:=1);have kut1:Keep ut (bump ut 1):=(Keep.refl hMt.wu).bump;refine hMt1.callV eF (R:=fun r u'=>∃now' b1 d1 b2 d2 b3 d3 ae ne ce,r=(.tuple #[.agg #[.int .i64 yc,.int .i64 now',.slice b1 oc d1,.slice b2 oc2 d2,.slice b3 oc3 d3],.slice ae ne ce,.int .i64 (pm.tick (pm.gf t τ)).2.2])/\RdSt cx u' yc now' b1 oc b2 oc2 b3 oc3 d3 (pm.tick (pm.gf t τ)).1) (L1 hMt1.wu (hSt.keep hMt.wu kut1) hIt fun m' now' b1 d1 b2 d2 b3 d3 ae ne ce k' hR' _ _=>⟨k',now',b1,d1,b2,d2,b3,d3,ae,ne,ce,rfl,hR'⟩) ?_;rintro r u2 m12 hM2 k2 ⟨now2,b1,d1,b2,d2,b3,d3,ae,ne,ce,rfl,hR2⟩;refine⟨_,_,_,_,_,_,_,_,_,_,_,_,_,_,_,rfl,?_⟩;obtain⟨hI2,hM2m,_,hn2',he2'⟩:=pm.tO hIt;rw[if_pos hnlt]at hn2' he2';rw[he2'];refine rq (fun e=>absurd rfl e) (fun _=>?_);have hS2:=(hSt.keep hMt.wu (kut1.trans k2));have hone:∀{j:Nat}{x':pm.Serv},(pm.tick (pm.gf t τ)).1.servs[j]? = some x'->_:=fun{j x'} hx'=>pm.JI hIt hGt hnlt hx'
     have hgh:∀{W' U' D':Int->Int},_->_->pm.Gh (pm.tick (pm.gf t τ)).1 W' U' D':=fun{W' U' D'} h1 h2=>pm.Ls hIt hGt hnlt h1 h2
     have etick:pm.gf (t+1) τ = (pm.tick (pm.gf t τ)).1:=rfl;have hlen2:=hR2.len1;have hlen2s:=hR2.len2;have hz1:=hI2.len1;have hz2:=hI2.len2;have hrise:=hI2.rise;have hM2b:=hM2.bump (n:=1);have k2b:Keep u2 (bump u2 1):=(Keep.refl hM2.wu).bump;refine⟨fun x19 mj w=>∃(j:Nat)(uj:Mem)(W1 U1 D1:Int->Int),x19=(j:Int)/\j<=oc/\w=oc-j/\MapsS m uj mj r1 r2 r3 W1 U1 D1/\Keep u2 uj/\NoteJ (pm.tick (pm.gf t τ)).1.servs Wt Ut Dt j W1 U1 D1,
      ⟨oc,0,_,Wt,Ut,Dt,rfl,Nat.zero_le _,rfl,hM2b,k2b,NoteJ.zero⟩,?_⟩
     rintro x19 mj w ⟨j,uj,W1,U1,D1,rfl,hj,rfl,hMj,kj,hNj⟩;refine fu (fun hlj=>?_) (fun hgj=>?_)
     ·
      obtain⟨x,hx⟩:∃x,(pm.tick (pm.gf t τ)).1.servs[j]? = some x:=⟨_,List.getElem?_eq_getElem (by omega)⟩;have hxm:=List.mem_of_getElem? hx;obtain⟨o,ho,hoid,hran⟩:=hone hx;obtain⟨ss,ls,aS,rS,_,_⟩:=yS hMj (hR2.keep hM2.wu kj);obtain⟨vx,hvx,rx⟩:=rS.get' hx;have e1:vx.s=x.s:=rx.s;have e2:vx.id=x.id:=rx.id;have e3:vx.sec=x.sec:=rx.sec;have e4:vx.ran=x.ran:=rx.ran;refine aS.open (k:=j) hvx fun b oo hc=>⟨_,hc 0 _ rfl,_,hc 1 _ rfl,_,hc 2 _ rfl,_,hc 3 _ rfl,_,hc 4 _ rfl,_,hc 5 _ rfl,_,_,_,hc 6 _ rfl,_,hc 7 _ rfl,_,hc 8 _ rfl,_,hc 9 _ rfl,_,hc 10 _ rfl,?_⟩
      rw[e1,e2,e3,e4];have hMj1:=hMj.bump (n:=1);have kj1:Keep uj (bump uj 1):=(Keep.refl hMj.wu).bump;refine hMj1.callV eF (R:=fun r u'=>∃(f1 f2 f3 f4 f5 f6:Int)(g1:Option Addr)(g2 g3:Nat)(f7 f8 f9:Int),r=(.tuple #[.agg #[.int .i64 f1,.int .i64 f2,.int .i64 f3,.int .i64 f4,.int .i64 f5,.int .i64 f6,.slice g1 g2 g3,.int .i64 f7,.int .i64 f8,.int .i64 f9,.int .i64 o.ran],.bool true])) (find_ok hMj1.wu (hS2.keep hM2.wu (kj.trans kj1)) hIt (fun m' k' hno=>?_) (fun m' v' x' k' _ hx' hid' hv'=>?_)) ?_
      .exfalso;have:pm.has (pm.gf t τ).servs x.id=true:=(pm.tT hIt.rise).2 ⟨o,List.mem_of_getElem? ho,hoid⟩;rw[this]at hno;cases hno
      .have:x'=o:=pm.AQ hIt.rise (List.mem_of_getElem? hx') (List.mem_of_getElem? ho) (hid'.trans hoid.symm);subst this;exact⟨k',_,_,_,_,_,_,_,_,_,_,_,_,by rw[<-hv'.ran]⟩
      rintro r uk mk hMk kk ⟨f1,f2,f3,f4,f5,f6,g1,g2,g3,f7,f8,f9,rfl⟩;refine⟨_,_,_,_,_,_,_,_,_,_,_,_,_,_,rfl,eV (fun h=>by cases h) (fun _=>?_)⟩;have kuk:Keep u2 uk:=kj.trans (kj1.trans kk);have hCF:=(hI2.serv x hxm).s;have hb1:=hCF.b1;have hb2:=hCF.b2;have hq2:=hCF.q2;have hp2:=hCF.p2;have hoR:=hIt.ran o (List.mem_of_getElem? ho);have hd2:=hCF.d2;have hWb:=hGt.wb x.id;obtain⟨w1,w2,w3⟩:=hNj.not x.id (fun i y hi hy e=>by have:=hrise.lt hi hy hx;omega);refine fJ (fun f:Mem->Prop=>∀mm u W2 U2 D2,MapsS m u mm r1 r2 r3 W2 U2 D2->Keep u2 u->W2=W1->pm.Us (U2 x.id) (D2 x.id) x.s->(∀id,id≠x.id->U2 id=U1 id/\D2 id=D1 id)->f mm) ?_ ?_
      .intro mp up W2 U2 D2 hMp kp hW2 hUs hoth;subst hW2;refine fJ (fun f:Mem->Prop=>∀mm W3,MapsS m up mm r1 r2 r3 W3 U2 D2->W3 x.id=(if x.sec=1 then W2 x.id+1 else 0)->(∀id,id≠x.id->W3 id=W2 id)->f mm) ?_ ?_
       .intro mq W3 hMq hW3 hoth3;have hu:=hUs.2.2.1;refine fK (fun e=>absurd e (by omega)) (fun _=>fK (fun e=>absurd e (by omega)) (fun _=>⟨_,hMq.m2.look (ye x.id) II,fK (fun e=>absurd e (by omega)) (fun _=>fK (fun e=>?_) (fun _=>fK (fun e=>?_) (fun _=>?_)))⟩))
        .exfalso;rcases hran with⟨e',_⟩|⟨e',_⟩<;>omega
        .exfalso;rw[fq (by omega) (by omega)]at e;rcases hran with⟨e',_⟩|⟨e',_⟩<;>omega
        .exact⟨oc-(j+1),oC hlj,j+1,up,W3,U2,D2,lU (by omega),hlj,rfl,hMq,kp,hNj.next hrise hx hW3 hUs fun id hid=>⟨hoth3 id hid,hoth id hid⟩⟩
       .intro J hJ;refine uf (fun hs=>⟨_,hMp.m1.look (ye x.id) II,?_⟩) (fun hs=>?_)
        .obtain⟨mq,q1,q2⟩:=hMp.upd1 (ye x.id) (aJ .i64 (W2 x.id) 1);refine⟨mq,q1,hJ mq _ q2 ?_ fun id hid=>?_⟩
         .unfold oR;rw[if_pos rfl,if_pos hs,fq (by omega) (by omega)]
         .unfold oR;rw[if_neg hid]
        .obtain⟨mq,q1,q2⟩:=hMp.upd1 (ye x.id) 0;refine⟨mq,q1,hJ mq _ q2 ?_ fun id hid=>?_⟩
         .unfold oR;rw[if_pos rfl,if_neg hs]
         .unfold oR;rw[if_neg hid]
      .intro J hJ;have hMkb:=hMk.bump (n:=1);have kkb:Keep uk (bump uk 1):=(Keep.refl hMk.wu).bump;refine uf (fun hr=>?_) (fun hr=>?_)
       .have hU1:pm.Us ((if x.s.due≠D1 x.id then 0 else U1 x.id)+1) x.s.due x.s:=by
         rcases hran with⟨e',h'⟩|⟨e',h'⟩
         .rw[w2,w3];exact h'
         .rw[fq (by omega) (by omega)]at hr;omega
        refine fJ (fun f:Mem->Prop=>∀mm u U2 D2,MapsS m u mm r1 r2 r3 W1 U2 D2->Keep u2 u->U2 x.id=(if x.s.due≠D1 x.id then 0 else U1 x.id)->D2 x.id=x.s.due->(∀id,id≠x.id->U2 id=U1 id/\D2 id=D1 id)->f mm) ?_ ?_
        .intro mp up U2 D2 hMp kp hU2 hD2 hoth;refine⟨_,hMp.m2.look (ye x.id) II,?_⟩;have hbU:0<=U2 x.id/\U2 x.id+1<=x.s.q:=by
          rw[hU2];have h1:=hU1.2.2.1;refine⟨?_,h1⟩;split
          .omega
          .rcases hran with⟨e',h'⟩|⟨e',h'⟩
           .have:=(hGt.us o (List.mem_of_getElem? ho)).1;rw[w2,<-hoid];exact this
           .rw[w2];exact h'.1
         obtain⟨mq,q1,q2⟩:=hMp.upd2 (ye x.id) (aJ .i64 (U2 x.id) 1);refine⟨mq,q1,hJ mq up W1 _ D2 q2 kp rfl ?_ fun id hid=>?_⟩
         .unfold oR;rw[if_pos rfl,fq (by omega) (by omega),hU2,hD2];exact hU1
         .unfold oR;rw[if_neg hid];exact hoth id hid
        .intro J2 hJ2;refine⟨_,hMkb.m3.look (ye x.id) II,rq (fun hd=>?_) (fun hd=>?_)⟩
         .have hMkc:=hMk.bump (n:=12);have kkc:Keep uk (bump uk 12):=(Keep.refl hMk.wu).bump;obtain⟨mq,q1,q2⟩:=hMkc.upd2 (ye x.id) 0;obtain⟨mr,s1,s2⟩:=q2.upd3 (ye x.id) x.s.due;refine⟨hMkc.m2.isMap,mq,q1,mr,s1,hJ2 mr _ _ _ s2 (kuk.trans kkc) ?_ ?_ fun id hid=>?_⟩
          .unfold oR;rw[if_pos rfl,if_pos hd]
          .unfold oR;rw[if_pos rfl]
          .unfold oR;rw[if_neg hid,if_neg hid];exact⟨rfl,rfl⟩
         .exact hJ2 _ _ U1 D1 hMkb (kuk.trans kkb) (by rw[if_neg (fun h=>h hd)]) hd.symm fun id hid=>⟨rfl,rfl⟩
       .refine hJ _ _ W1 U1 D1 hMkb (kuk.trans kkb) rfl ?_ fun id hid=>⟨rfl,rfl⟩
        rw[w2,w3];rcases hran with⟨e',h'⟩|⟨e',h'⟩
        .exfalso;apply hr;rw[fq (by omega) (by omega)];exact e'
        .exact h'
     ·
      have ej:j=oc:=by omega
      subst ej;have hG2:pm.Gh (pm.tick (pm.gf t τ)).1 W1 U1 D1:=hgh (fun x hx=>by
       obtain⟨i,hi⟩:=List.getElem?_of_mem hx;exact hNj.did i x (by have:=(List.getElem?_eq_some_iff.1 hi).1;omega) hi) (fun id hid=>hNj.not id fun i x _ hi=>hid x (List.mem_of_getElem? hi))
      have hR2j:=hR2.keep hM2.wu kj;have hex2:yc=(pm.tick (pm.gf t τ)).1.m:=hR2.em;have hm1:=hI2.m1;have hm2:=hI2.m2;refine⟨fun x23 mq w=>∃(q:Nat)(uq:Mem),x23=(q:Int)/\q<=oc2/\w=oc2-q/\MapsS m uq mq r1 r2 r3 W1 U1 D1/\Keep uj uq,⟨oc2,0,uj,rfl,Nat.zero_le _,rfl,hMj,Keep.refl hMj.wu⟩,?_⟩;rintro x23 mq w ⟨q,uq,rfl,hq,rfl,hMq,kq⟩;refine fu (fun hlq=>?_) (fun hgq=>?_)
      .obtain⟨lk,hlk⟩:∃lk,(pm.tick (pm.gf t τ)).1.sems[q]? = some lk:=⟨_,List.getElem?_eq_getElem (by omega)⟩;have hmost:=hI2.most lk (List.mem_of_getElem? hlk);refine⟨fun x24 x25 mi w=>∃(i:Nat)(ui:Mem),x25=(i:Int)/\i<=j/\w=j-i/\x24=((((pm.tick (pm.gf t τ)).1.servs.take i).filter (pm.fI lk)).length:Int)/\MapsS m ui mi r1 r2 r3 W1 U1 D1/\Keep uj ui,⟨j,0,uq,rfl,Nat.zero_le _,rfl,rfl,hMq,kq⟩,?_⟩;rintro x24 x25 mi w ⟨i,ui,rfl,hi,rfl,rfl,hMi,ki⟩;have hcl:(((pm.tick (pm.gf t τ)).1.servs.take i).filter (pm.fI lk)).length<=32:=by
        refine Nat.le_trans (List.length_filter_le _ _) ?_;rw[List.length_take];omega
       have lock:∀{mz uz:Mem},MapsS m uz mz r1 r2 r3 W1 U1 D1->Keep uj uz->∀{G:Nat->Nat->Prop},(∀b oo (qa:Option Addr)(qn qc:Nat),rd mz b (oo+Int.toNat (q:Int)*4)=some (.int .i64 lk.most)->rd mz b (oo+Int.toNat (q:Int)*4+1)=some (.int .i64 lk.holder)->rd mz b (oo+Int.toNat (q:Int)*4+2)=some (.slice qa qn qc)->Arr encI 1 mz qa qn lk.queue->G b oo)->(0<=(q:Int)/\(q:Int)<((oc2:Nat):Int))/\ec b2 G:=by
        intro mz uz hMz kz G hGG;obtain⟨ss,ls,_,_,aL,rL⟩:=yS hMz (hR2j.keep hMj.wu kz);obtain⟨vl,hvl,rl⟩:=rL.get' hlk;refine aL.open (k:=q) hvl fun b oo hc=>hGG b oo vl.qa vl.qn vl.qc ?_ ?_ (hc 2 _ rfl) (hMz.arr rl.queue)
        .rw[<-rl.most];exact hc 0 _ rfl
        .rw[<-rl.holder];exact hc 1 _ rfl
       refine fu (fun hli=>?_) (fun hgi=>?_)
       .obtain⟨x,hx⟩:∃x,(pm.tick (pm.gf t τ)).1.servs[i]? = some x:=⟨_,List.getElem?_eq_getElem (by omega)⟩;have hxm:=List.mem_of_getElem? hx;obtain⟨ss,ls,aS,rS,_,_⟩:=yS hMi (hR2j.keep hMj.wu ki);obtain⟨vx,hvx,rx⟩:=rS.get' hx;have e2:vx.id=x.id:=rx.id;have e3:vx.sec=x.sec:=rx.sec;have e5:vx.held=x.held:=rx.held;have esucc:(((pm.tick (pm.gf t τ)).1.servs.take (i+1)).filter (pm.fI lk)).length=(((pm.tick (pm.gf t τ)).1.servs.take i).filter (pm.fI lk)).length+(if pm.fI lk x=true then 1 else 0):=by
         rw[List.take_add_one,hx];exact pm.Dn lk _ x
        refine aS.open (k:=i) hvx fun b oo hc=>⟨_,hc 0 _ rfl,_,hc 1 _ rfl,_,hc 2 _ rfl,_,hc 3 _ rfl,_,hc 4 _ rfl,_,hc 5 _ rfl,_,_,_,hc 6 _ rfl,_,hc 7 _ rfl,_,hc 8 _ rfl,_,hc 9 _ rfl,_,hc 10 _ rfl,?_⟩
        rw[e2,e3,e5];refine fJ (fun f:Bool->Mem->Prop=>f (pm.fI lk x) (bump mi 15)) ?_ ?_
        .have hMi1:=hMi.bump (n:=15);have ki1:Keep uj (bump ui 15):=ki.bump;have hMi2:=hMi1.bump (n:=14);refine bQ (fun hh=>?_) (fun hh=>?_)
         .obtain⟨g1,g2⟩:=hG2.held hlk hxm hh;refine fK (fun e=>absurd e (by omega)) (fun _=>?_);refine lock hMi2 ki1.bump fun b oo qa qn qc r0 _ _ _=>⟨_,r0,sG (fun e=>absurd e (by omega)) (fun _=>⟨j-(i+1),oC hli,i+1,_,lU (by omega),hli,rfl,?_,hMi2,ki1.bump⟩)⟩
          rw[esucc,if_pos hh];exact lU (by omega)
         .refine⟨j-(i+1),oC hli,i+1,_,lU (by omega),hli,rfl,?_,hMi1,ki1⟩;rw[esucc,if_neg (by rw[hh];simp)];rfl
        .intro J hJ;have hMi1:=hMi.bump (n:=15);have ki1:Keep uj (bump ui 15):=ki.bump;refine bQ (fun hh=>?_) (fun hh=>?_)
         .refine lock hMi1 ki1 fun b oo qa qn qc _ r1' _ _=>⟨_,r1',?_⟩
          have:pm.fI lk x=dO lk.holder x.id:=by unfold pm.fI;rw[hh];rfl
          rw[<-this];exact hJ
         .have:pm.fI lk x=false:=by unfold pm.fI;rw[hh];rfl
          rw[this]at hJ;exact hJ
       .have ei:i=j:=by omega
        subst ei;rw[List.take_of_length_le (by omega),pm.EJ hI2.toIw hlk];have hMe:=hMi.bump (n:=32);have ke:Keep uj (bump ui 32):=ki.bump;refine fJ (fun f:Mem->Prop=>f (bump mi 32)) ?_ ?_
        .refine⟨fun x27 mv w=>∃(z:Nat)(uv:Mem),x27=(z:Int)/\z<=lk.queue.length/\w=lk.queue.length-z/\MapsS m uv mv r1 r2 r3 W1 U1 D1/\Keep uj uv,⟨_,0,_,rfl,Nat.zero_le _,rfl,hMe,ke⟩,?_⟩;rintro x27 mv w ⟨z,uv,rfl,hz,rfl,hMv,kv⟩;refine lock hMv kv fun b oo qa qn qc _ _ r2' hQ=>⟨_,_,_,r2',?_⟩
         have hqn:lk.queue.length=qn:=hQ.1;refine fu (fun hlz=>?_) (fun hgz=>?_)
         .have hMv2:=hMv.bump (n:=22);have kv2:Keep uj (bump uv 22):=kv.bump;refine lock hMv2 kv2 fun b oo qa qn' qc r0 _ r2'' hQ'=>⟨_,_,_,r2'',?_⟩
          obtain⟨id,hid⟩:∃id,lk.queue[z]? = some id:=⟨_,List.getElem?_eq_getElem (by omega)⟩;refine hQ'.open (k:=z) hid fun b oo hc=>⟨_,hc 0 _ rfl,_,hMv2.m1.look (ye id) II,?_⟩
          refine lock hMv2 kv2 fun b oo qa qn' qc r0 _ _ _=>⟨_,r0,?_⟩
          have hwt:=hG2.waits hI2 hlk hid;have e1:dY .i64 yc 1=(pm.tick (pm.gf t τ)).1.m-1:=by rw[hex2,iI (by omega) (by omega)]
          have hp1:0<=((pm.tick (pm.gf t τ)).1.m-1)*lk.most:=Int.mul_nonneg (by omega) (by omega);have hp2:((pm.tick (pm.gf t τ)).1.m-1)*lk.most<=64*1048576:=Int.mul_le_mul (by omega) (by omega) (by omega) (by omega);have e2:jT .i64 (dY .i64 yc 1) lk.most=((pm.tick (pm.gf t τ)).1.m-1)*lk.most:=by rw[e1,pJ (by omega) (by omega)]
          rw[e2];refine fK (fun e=>absurd e (by omega)) (fun _=>⟨_,oC (by omega:z<lk.queue.length),z+1,_,lU ?_,by omega,rfl,hMv2,kv2⟩);have:=hG2.few hI2 hlk;omega
         .exact⟨oc2-(q+1),oC hlq,q+1,_,lU (by omega),hlq,rfl,hMv,kv⟩
        .intro J hJ;have hfew:=hG2.few hI2 hlk;refine lock hMe ke fun b oo qa qn qc _ r1' _ _=>⟨_,r1',eV (fun hh=>?_) (fun _=>?_)⟩
         .exfalso;by_cases h0:lk.holder=0
          .rw[if_pos h0,h0,show eX 0 0=false from fP.2 rfl,show dO ((0:Nat):Int) 1=false from fU.2 (by omega)]at hh;cases hh
          .rw[if_neg h0,jl.2 h0,show dO ((1:Nat):Int) 1=true from eP.2 (by omega)]at hh;cases hh
         .refine lock hMe ke fun b oo qa qn qc _ _ r2' hQ=>⟨_,_,_,r2',?_⟩
          have hqn:lk.queue.length=qn:=hQ.1;refine sG (fun e=>?_) (fun _=>hJ);exfalso;unfold aQ at e;omega
      .have eq':q=oc2:=by omega
       subst eq';refine⟨80-(t+1),by omega,t+1,uq,W1,U1,D1,lU (by omega),by omega,rfl,rfl,hMq,?_,?_⟩
       .rw[etick];exact hR2j.keep hMj.wu kq
       .rw[etick];exact hG2
    .intro J' hJ';have done:min o5.toNat 80=t->∃n_135:Nat,n_135<n2-k/\∃(k':Nat) (τ':pm.St)(u':Mem)(W' U' D':Int->Int),aJ .i64 (k:Int) 1=(k':Int)/\k'<=n2/\n_135=n2-k'/\yc=yc/\MapsS m u' mt r1 r2 r3 W' U' D'/\RdSt cx u' yc yc1 bc oc bc2 oc2 bc3 oc3 dc3 τ'/\pm.Iv (k':Int) τ'/\pm.Gh τ' W' U' D'/\τ'.now<=80*k':=fun e=>
      ⟨n2-(k+1),oC hlt,k+1,pm.gf t τ,ut,Wt,Ut,Dt,lU (by omega),hlt,rfl,rfl,hMt,hSt,hIt.mono (by omega),hGt,by omega⟩
     exact fK (fun l1=>fK (fun l2=>hJ' (by omega)) (fun l2=>done (by omega))) (fun l1=>done (by omega))
  .intro J hJ;refine rq (fun _=>rfl) (fun _=>fK (fun _=>rfl) (fun h15=>hJ ?_));simp only[aQ]at h15;omega
end
end Go.Proofs.YtiehbnmpaeedpaaGreat.vc
