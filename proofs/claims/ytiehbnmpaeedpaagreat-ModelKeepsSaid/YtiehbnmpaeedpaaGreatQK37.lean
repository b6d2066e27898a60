import Derived.Test.YtiehbnmpaeedpaaGreatQK36
import Derived.Test.YtiehbnmpaeedpaaGreatQK32
import Derived.KernelRfl
import Derived.Test.YtiehbnmpaeedpaaGreatQK26
set_option linter.unusedVariables false
set_option linter.unusedSimpArgs false
set_option linter.unusedSectionVars false
namespace Go.Proofs.YtiehbnmpaeedpaaGreat.vc
open Go Go.AX
section
variable {B:Int}{m0 m:Mem}{lam:Nat->Lb}{Q:Value->Mem->Prop}{M now:Int}{a1 a2 a3:Option Addr}{n1 c1 n2 c2 n3 c3:Nat}{ss:List SV}{js:Nat->List JV}{ls:List LV}{qs:Nat->List Int}{σ : pm.St}
theorem M2(hO:Ow TT (fun _=>.own true) (fun _=>.own true) m0 m lam a1 n1 c1 a2 n2 c2 a3 n3 c3 ss js ls qs σ):(ss.flatMap encS).all (pK m.nx)=true:=by
 rw[List.all_eq_true];intro u hu;obtain⟨v,hv,hu⟩:=List.mem_flatMap.1 hu;obtain⟨i,hi⟩:=List.getElem?_of_mem hv;have hJ:CSl m0 m gO true v.ja v.jn v.jc ((js i).flatMap encJ):=(hO.jb i v hi).1;have hlow:pK m.nx (.slice v.ja v.jn v.jc)=true:=by
  have hlt:=hJ.lt hO.keep.wf;generalize (js i).flatMap encJ=L at hJ;generalize v.ja=a at *;generalize v.jn=n at *;generalize v.jc=c at *;cases hJ with
  | nil=>rfl
  | empty b cc h1 h2=>exact Nat.ble_eq_true_of_le (hlt b (by simp[blk])).2
  | row b n pre l hw h1 h2=>exact Nat.ble_eq_true_of_le (hlt b (by simp[blk])).2
 unfold encS at hu;simp only[List.mem_cons,List.not_mem_nil,or_false]at hu;rcases hu with rfl|rfl|rfl|rfl|rfl|rfl|rfl|rfl|rfl|rfl|rfl
 all_goals first|exact hlow|rfl
theorem LP{i bv:Nat}{v:SV}(hO:Ow TT (fun _=>.own true) (fun _=>.own true) m0 m lam a1 n1 c1 a2 n2 c2 a3 n3 c3 ss js ls qs σ)(hi:i<=n1)(hR:Row m bv (encS v) eJ false)(hbv:∀b∈blk a1,bv≠b)(hv0:v.ja=none/\v.jn=0/\v.jc=0)(hn:n1<=1000)
  (h:∀m',Wf m'->Fr m m' (blk a1)->m'.nx=m.nx+1->Row m' m.nx ((ss.take i++v::ss.drop i).flatMap encS) eJ true->Q (.slice (some ⟨m.nx,0,none⟩) (n1+1) (n1+1)) m') :
  ah cx fF [.slice a1 n1 c1,.int .i64 (i:Int),.slice (some ⟨bv,0,none⟩) 1 1] m Q:=by
 have hw:=hO.keep.wf;have hfl0:m.fl<=m0.nx:=by have:=hO.keep.fl;have:=hO.fl0;omega
 have hLlen:(ss.flatMap encS).length=n1*11:=by rw[eO mI,hO.s1n]
 have hx:eo m 11 1 (.slice (some ⟨bv,0,none⟩) 1 1)=some (encS v):=hR.first1 rfl;by_cases hin:i=n1
 .obtain⟨m',q1,q2,q3,q4,q5⟩:=yo (cx:=vc0.cx) (t:=cJ) (e:=eJ) (s:=11) (vs:=encS v) (by kernel_rfl) hw hfl0 hO.s1.own hLlen hx rfl rfl (by omega);have hsl:FX (dT vc0.cx m cJ (.slice a1 n1 c1) (some (.int .i64 (i:Int))) none none)=true:=by
   have ht:vc0.cx.un.get cJ=some (.slice eJ):=by kernel_rfl
   have hs:eH vc0.cx eJ=some 11:=by kernel_rfl
   have h1:=hO.s1.own;subst hin;generalize ss.flatMap encS=L at h1;cases h1 with
   | nil=>
    unfold dT;have b1:gh 0 (some (.int .i64 ((0:Nat):Int))) 0=some 0:=fb (Nat.le_refl _);simp only[ht,hs,lR,b1];rfl
   | empty b cc h2 h3=>
    rw[fV (lo:=some (.int .i64 ((0:Nat):Int))) (hi:=none) ht hs rfl (fb (Nat.le_refl _)) (by unfold sameSize;rw[h3]) (Nat.le_refl _)];rfl
   | row b n l h0 h2 h3=>
    rw[fV (hi:=none) ht hs rfl (fb (Nat.le_refl _)) (h3.sameSize hs) (Nat.le_refl _)];rfl
  refine ah.ov ez Fx (r:=.slice (some ⟨m.nx,0,none⟩) (n1+1) (n1+1)) (u':=m') ?_ (h m' q2 q3 q4 ?_)
  .show oQ vc0.cx cJ eJ 11 104 _ _=_;unfold oQ;have e1:decide ((i:Int)=(n1:Int))=true:=decide_eq_true (by omega);simp only[e1,hsl,show Nat.blt 0 1=true from rfl];exact q1
  .rw[List.take_of_length_le (by rw[hO.s1n];omega),List.drop_eq_nil_of_le (by rw[hO.s1n];omega),List.flatMap_append];simpa using q5
 .have h1:=hO.s1.own;have hlow:=M2 hO;have hone:(ss.flatMap encS).all one1=true:=Bz ww ss;have hfm:(ss.take i++v::ss.drop i).flatMap encS=(ss.flatMap encS).take (i*11)++encS v++(ss.flatMap encS).drop (i*11):=by
   have e:ss.flatMap encS=(ss.take i).flatMap encS++(ss.drop i).flatMap encS:=by rw[<-List.flatMap_append,List.take_append_drop]
   have hl:((ss.take i).flatMap encS).length=i*11:=by rw[eO mI,List.length_take,hO.s1n];congr 1;omega
   rw[e,List.flatMap_append,List.flatMap_cons,<-hl,List.take_left,List.drop_left,List.append_assoc]
  rw[hfm]at h;have hlowv:(encS v).all (pK m.nx)=true:=by
   obtain⟨e1,e2,e3⟩:=hv0;unfold encS;rw[e1,e2,e3];rfl
  generalize ss.flatMap encS=L at *;cases h1 with
  | nil=>omega
  | empty b cc h2 h3=>omega
  | row b n l h0 h2 h3=>
   have hbne:Nat.beq bv b=false:=Tr.beq_false.2 (hbv b (by simp[blk]));obtain⟨tr,hg,hc⟩:=id h3;have hrow:fM m ⟨b,0,none⟩ (n1*11)=some L:=by
    have:=h3.rowAll;rw[hLlen]at this;exact this
   obtain⟨tv,hgv,_⟩:=id hR;have hcell:ik m bv=true:=by unfold ik;rw[hgv]
   have hok:uB m eJ eJ 11 b 0 n1 n1 i 1 bv L.length 104 L (encS v)=true:=by
    unfold uB;rw[hcell,hlow,hlowv,hone,ww v,hbne,Nat.ble_eq_true_of_le (show m.fl<=b by omega)];have b1:Nat.beq (0+n1*11) L.length=true:=by rw[hLlen,Nat.zero_add];exact Nat.beq_refl _
    have b2:Nat.blt i n1=true:=Nat.ble_eq_true_of_le (by omega);have b3:Nat.ble n1 n1=true:=Nat.ble_eq_true_of_le (Nat.le_refl _);have b4:Nat.beq (encS v).length (1*11)=true:=rfl;have b5:Nat.beq L.length (n1*11)=true:=by rw[hLlen];exact Nat.beq_refl _
    have b6:Nat.ble (n1+1) 1000000=true:=Nat.ble_eq_true_of_le (by omega);rw[b1,b2,b3,b4,b5,b6,show Nat.beq eJ eJ=true from Nat.beq_refl _];rfl
   refine ah.ov ez Fx (r:=.slice (some ⟨m.nx,0,none⟩) (n1+1) (n1+1)) (u':=(gy { m with hp:=m.hp.del b } (L.take (i*11)++encS v++L.drop (i*11)) eJ true).2) ?_ (h _ ?_ ?_ rfl ?_)
   .show oQ vc0.cx cJ eJ 11 104 _ _=_;unfold oQ;have e1:decide ((i:Int)=(n1:Int))=false:=decide_eq_false (by omega);have e2:decide (0<=(i:Int))=true:=decide_eq_true (by omega);simp only[e1,e2];unfold vQ;rw[Int.toNat_natCast];simp only[hg,hrow,hx,hok]
   .have hd:=C1 hw b;exact(iC hd.wf _ _ _).wf
   .refine⟨Nat.le_succ _,rfl,fun b' hb' hn'=>?_⟩;show ((m.hp.del b).put m.nx _).get b'=_;rw[Tr.get_put,if_neg (by omega),Tr.get_del,if_neg (by simpa [blk]using hn')]
   .exact Row.of_row (by
     show ((m.hp.del b).put m.nx _).get m.nx=_;rw[Tr.get_put,if_pos rfl];rfl)
theorem Kk{α β : Type}{R:α->β->Prop}{l:List α}{k:List β}{a:α}{b:β}(h:All2 R l k)(i:Nat)(hab:R a b):All2 R (l.take i++a::l.drop i) (k.take i++b::k.drop i):=
 (h.take i).append (.cons hab (h.drop i))
theorem zm{id q p:Int}(hw:Wf m)(hσ : RdSt cx m M now a1 n1 a2 n2 a3 n3 c3 σ)(hI:pm.Iv B σ)
  (h:∀m' b1 n1' d1 b2 d2 b3 d3,Keep m m'->RdSt cx m' M now b1 n1' b2 n2 b3 n3 d3 (pm.add σ id q p).1->Q (.tuple #[.agg #[.int .i64 M,.int .i64 now,.slice b1 n1' d1,.slice b2 n2 d2,.slice b3 n3 d3],.int .i64 (pm.add σ id q p).2]) m') :
  ah cx tu [.agg #[.int .i64 M,.int .i64 now,.slice a1 n1 c1,.slice a2 n2 c2,.slice a3 n3 c3],.int .i64 id,.int .i64 q,.int .i64 p] m Q:=by
 apply AZ;unfold xV;have k0:Keep m (bump m 2):=(Keep.refl hw).bump;have hz:=hI.len1;have hl1:=hσ.len1;refine xn k0.wf (hσ.keep hw k0) hI.rise (by omega) fun m1 k1=>⟨_,_,rfl,?_⟩
 have k01:=k0.trans k1;have same:∀m' e,Keep m m'->pm.add σ id q p=(σ,e)->Q (.tuple #[.agg #[.int .i64 M,.int .i64 now,.slice a1 n1 c1,.slice a2 n2 c2,.slice a3 n3 c3],.int .i64 e]) m':=fun m' e k he=>by
  rw[he]at h;exact h m' a1 n1 c1 a2 c2 a3 c3 k (hσ.keep hw k)
 refine fJ (fun f:Bool->Mem->Prop=>∀b,b=(dJ id 1 || dJ 255 id)->f b m1) ?_ ?_
 .rintro b rfl;refine bQ (fun h1=>same _ _ k01 (by unfold pm.add;rw[h1];rfl)) (fun h1=>?_);refine bQ (fun h2=>same _ _ k01 (by unfold pm.add;rw[h1,h2];rfl)) (fun h2=>?_);have e3:leI 32 (aQ n1)=leI 32 (aQ σ.servs.length):=by rw[hl1]
  rw[e3];refine bQ (fun h3=>same _ _ k01 (by unfold pm.add;rw[h1,h2,h3];rfl)) (fun h3=>?_);refine LQ k01.wf fun m2 k2=>⟨_,_,_,_,_,_,rfl,?_⟩
  have k02:=k01.trans k2;refine bQ (fun h4=>same _ _ k02.bump (by unfold pm.add;rw[h1,h2,h3,h4];rfl)) (fun h4=>?_);obtain⟨_,_,ecn⟩:=pm.wk (fP.1 h4);have eadd:pm.add σ id q p=({ σ with servs:=σ.servs.take (pm.at_ σ.servs id)++⟨id,(pm.gk q p).1,[],0,0,0,0⟩::σ.servs.drop (pm.at_ σ.servs id) },0):=by
   unfold pm.add;rw[h1,h2,h3,h4];rfl
  rw[eadd]at h;have k03:Keep m (bump m2 1):=k02.bump;refine uV k03.wf (hσ.keep hw k03) (sg hI.toIw) fun m4 lam b1 d1 b2 d2 b3 d3 ss js ls qs hO=>⟨_,_,_,_,_,_,_,_,_,_,_,rfl,?_⟩
  have hO:=hO.old0 hw k03;rw[dh];have k5:Keep m4 (newO m4 (row [.int .i64 id,.int .i64 (pm.gk q p).1.q,.int .i64 (pm.gk q p).1.p,.int .i64 (pm.gk q p).1.bud,.int .i64 (pm.gk q p).1.due,.int .i64 (pm.gk q p).1.mode,.slice none 0 0,.int .i64 0,.int .i64 0,.int .i64 0,.int .i64 0] eJ false)):=(Keep.refl hO.keep.wf).newO;have hR:Row (newO m4 (row [.int .i64 id,.int .i64 (pm.gk q p).1.q,.int .i64 (pm.gk q p).1.p,.int .i64 (pm.gk q p).1.bud,.int .i64 (pm.gk q p).1.due,.int .i64 (pm.gk q p).1.mode,.slice none 0 0,.int .i64 0,.int .i64 0,.int .i64 0,.int .i64 0] eJ false)) m4.nx (encS ⟨id,(pm.gk q p).1,none,0,0,0,0,0,0⟩) eJ false:=Row.newO;generalize newO m4 (row [.int .i64 id,.int .i64 (pm.gk q p).1.q,.int .i64 (pm.gk q p).1.p,.int .i64 (pm.gk q p).1.bud,.int .i64 (pm.gk q p).1.due,.int .i64 (pm.gk q p).1.mode,.slice none 0 0,.int .i64 0,.int .i64 0,.int .i64 0,.int .i64 0] eJ false)=m5 at k5 hR;have hO5:=hO.then k5;have hblt:=hO.s1.lt hO.keep.wf;have hale:=Gn σ.servs id;refine LP hO5 (i:=pm.at_ σ.servs id) (by omega) hR (fun b hb e=>by have:=(hblt b hb).2;omega) ⟨rfl,rfl,rfl⟩ (by omega) fun m6 hw6 f6 hx6 hR6=>⟨_,_,_,rfl,?_⟩
  obtain⟨r1,r2,r3,r4⟩:=hO5.apartS (cx:=cx) f6 (fun b hb=>hO.s1l b hb) kN;have kk:Keep m m6:=Keep.of_fr hO5.keep hw6 f6 (fun b hb=>(hblt b hb).1);have hnew:RdServ m6 (⟨id,(pm.gk q p).1,none,0,0,0,0,0,0⟩:SV) (⟨id,(pm.gk q p).1,[],0,0,0,0⟩:pm.Serv):=⟨rfl,rfl,rfl,rfl,rfl,rfl,[],jH.nil,.nil⟩;refine h m6 _ _ _ _ _ _ _ kk ⟨hσ.em,hσ.enow,⟨_,?_,Kk r1 _ hnew⟩,r2,r3,r4⟩;have:=Arr.of_row mI hR6;have e:(ss.take (pm.at_ σ.servs id)++(⟨id,(pm.gk q p).1,none,0,0,0,0,0,0⟩:SV)::ss.drop (pm.at_ σ.servs id)).length=n1+1:=by
   rw[List.length_append,List.length_cons,List.length_take,List.length_drop,hO.s1n];omega
  rw[e]at this;exact this
 .intro J hJ;refine bQ (fun h1=>hJ _ (by rw[h1];rfl)) (fun h1=>hJ _ (by rw[h1];rfl))
end
end Go.Proofs.YtiehbnmpaeedpaaGreat.vc
namespace Go.Proofs.YtiehbnmpaeedpaaGreat.vc
open Go Go.AX
section
variable {B:Int}{m0 m:Mem}{lam:Nat->Lb}{wj wq:Nat->Kd}{Q:Value->Mem->Prop}{M now:Int}{a1 a2 a3 ae:Option Addr}{n1 c1 n2 c2 n3 c3 ne ce:Nat}{ss:List SV}{js:Nat->List JV}{ls:List LV}{qs:Nat->List Int}{σ : pm.St}{E:List pm.Ev}
theorem Kl(hw:Wf m)(hσ : RdSt cx m M now a1 n1 a2 n2 a3 n3 c3 σ)(hn2:n2<=1000)
  (h:∀m' a c,Keep m m'->Q (.slice a n2 c) m') :
  ah cx lX [.agg #[.int .i64 M,.int .i64 now,.slice a1 n1 c1,.slice a2 n2 c2,.slice a3 n3 c3]] m Q:=by
 apply tw;unfold pB;have k0:Keep m (bump m 1):=(Keep.refl hw).bump;obtain⟨ls,hA,_⟩:=hσ.sems;refine pT (show n2<=4611686018427387904 by omega) (fun k a n c mm=>∃l,Acc m mm a n c 1 oz l/\n=k) ⟨[],Acc.nil k0 _ _,rfl⟩ ?_;rintro k a n c m1 hk ⟨l,hacc,rfl⟩ I w hI;refine fu (fun hlt=>?_) (fun hge=>?_)
 .obtain⟨v,hv⟩:∃v,ls[n]? = some v:=⟨_,List.getElem?_eq_getElem (by rw[hA.1];exact hlt)⟩;refine(hA.keep hw hacc.keep).open (k:=n) hv fun b o hc=>?_
  refine⟨_,hc 0 _ rfl,_,hc 1 _ rfl,_,_,_,hc 2 _ rfl,_,hc 3 _ rfl,?_⟩;rw[dh];obtain⟨m4,q1,q2,q3,q4,q5⟩:=(hacc.then ((Keep.refl hacc.keep.wf).bump (n:=1))).push (cx:=cx) (t:=kl) (vs:=[.int .i64 v.most]) (by kernel_rfl) rfl rfl (by omega);exact⟨_,_,_,m4,q1,hI _ _ _ m4 hlt ⟨_,q2,rfl⟩⟩
 .obtain rfl:n=n2:=by omega
  exact h m1 a c hacc.keep
theorem OwE.pushJ(h:OwE wj wq m0 m lam a1 n1 c1 a2 n2 c2 a3 n3 c3 ss js ls qs σ ae ne ce E){i b o:Nat}{u:SV}{y:pm.Serv}{jv:JV}{jx:pm.Job}{xa:Option Addr}(hu:ss[i]? = some u)(hy:σ.servs[i]? = some y)(hab:a1=some ⟨b,o,none⟩) (hκ : wj i = .own true)(hx:eo m 4 1 (.slice xa 1 1)=some (encJ jv))(hd:DpJob m lam jv jx)(hn:u.jn<=900000) :
  ∃m',dm cx m [gu,gu] [.slice u.ja u.jn u.jc,.slice xa 1 1]=some (.slice (some ⟨m.nx,0,none⟩) (u.jn+1) (u.jn+1),m')/\okW m' b (o+Int.toNat (i:Int)*11+6) 1/\
   OwE wj wq m0 (wr m' b (o+Int.toNat (i:Int)*11+6) [.slice (some ⟨m.nx,0,none⟩) (u.jn+1) (u.jn+1)]) (iD lam m.nx (.jb i)) a1 n1 c1 a2 n2 c2 a3 n3 c3 (ss.set i { u with ja:=some ⟨m.nx,0,none⟩,jn:=u.jn+1,jc:=u.jn+1 }) (iD js i (js i++[jv])) ls qs { σ with servs:=σ.servs.set i { y with jobs:=y.jobs++[jx] } } ae ne ce E:=by
 have hw:=h.wf;have hH:=h.ow.jb i u hu;rw[hκ]at hH;obtain⟨p1,p2,p3⟩:=hH;obtain⟨m',q1,q2,q3,q4,q5⟩:=yo (cx:=cx) (t:=gu) (e:=gO) (s:=4) (vs:=encJ jv) (by kernel_rfl) hw (by have:=h.ow.keep.fl;have:=h.ow.fl0;omega) p1.own (by rw[eO ic,p3]) hx rfl rfl hn;have hR:Row m' m.nx ((js i++[jv]).flatMap encJ) gO true:=by rw[List.flatMap_append];simpa using q5
 obtain⟨g1,g2⟩:=h.ow.pushJ hu hy hab q2 q3 hκ (Nat.le_refl _) (by omega) hR hd;have hlb:lam b = .sv:=h.ow.s1l b (by rw[hab];simp[blk]);have f2:Fr m (wr m' b (o+Int.toNat (i:Int)*11+6) [.slice (some ⟨m.nx,0,none⟩) (u.jn+1) (u.jn+1)]) (b::blk u.ja):=(q3.mono (S':=b::blk u.ja) (fun b' hb'=>.inl (List.mem_cons_of_mem _ hb'))).wr (.inl (List.mem_cons_self ..));have hS:∀b'∈b::blk u.ja,lam b' = .sv∨lam b' = .jb i:=fun b' hb'=>by
  rcases List.mem_cons.1 hb' with e|hb'
  .subst e;exact .inl hlb
  .exact .inr (p2 b' hb')
 refine⟨m',q1,g1,⟨g2,h.ev.fr f2 hw (fun b' hb' hs=>?_),fun b' hb'=>⟨(h.evn b' hb').1,?_⟩⟩⟩
 .have:=(h.evn b' hb').2;rcases hS b' hs with e|e<;>rw[e]at this<;>cases this
 .rw[ft (fun e=>by have:=h.evlt b' hb';omega)];exact(h.evn b' hb').2
end
end Go.Proofs.YtiehbnmpaeedpaaGreat.vc
namespace Go.Proofs.YtiehbnmpaeedpaaGreat.vc
open Go Go.AX
section
variable {B:Int}{m0 m:Mem}{lam:Nat->Lb}{wj wq:Nat->Kd}{Q:Value->Mem->Prop}{M now:Int}{a1 a2 a3 ae:Option Addr}{n1 c1 n2 c2 n3 c3 ne ce:Nat}{ss:List SV}{js:Nat->List JV}{ls:List LV}{qs:Nat->List Int}{σ : pm.St}{E:List pm.Ev}
theorem GW{id:Int}{ap:Option Addr}{np cp:Nat}{p:List pm.Step}(hw:Wf m)(hσ : RdSt cx m M now a1 n1 a2 n2 a3 n3 c3 σ)(hI:pm.Iv B σ)(hB:B<4611686018427387904)(hp:Arr encP 2 m ap np p)
  (h:∀m' b1 d1 b2 d2 b3 d3 ae ne ce,Keep m m'->RdSt cx m' M now b1 n1 b2 n2 b3 n3 d3 (pm.release σ id p).1->Arr encEv 4 m' ae ne (pm.release σ id p).2.1->ne<=2->Q (.tuple #[.agg #[.int .i64 M,.int .i64 now,.slice b1 n1 d1,.slice b2 n2 d2,.slice b3 n3 d3],.slice ae ne ce,.int .i64 (pm.release σ id p).2.2]) m') :
  ah cx po [.agg #[.int .i64 M,.int .i64 now,.slice a1 n1 c1,.slice a2 n2 c2,.slice a3 n3 c3],.int .i64 id,.slice ap np cp] m Q:=by
 apply wP;unfold sX;have k0:Keep m (bump m 2):=(Keep.refl hw).bump;have hz:=hI.len1;have hz2:=hI.len2;have hl1:=hσ.len1;have hl2:=hσ.len2;have en:=hσ.enow;refine xn k0.wf (hσ.keep hw k0) hI.rise (by omega) fun m1 k1=>⟨_,_,rfl,?_⟩
 have k01:=k0.trans k1;have same:∀m' e,Keep m m'->pm.release σ id p=(σ,[],e)->Q (.tuple #[.agg #[.int .i64 M,.int .i64 now,.slice a1 n1 c1,.slice a2 n2 c2,.slice a3 n3 c3],.slice none 0 0,.int .i64 e]) m':=fun m' e k he=>by
  rw[he]at h;exact h m' a1 c1 a2 c2 a3 c3 none 0 0 k (hσ.keep hw k) jH.nil (by omega)
 refine eV (fun h1=>same _ _ k01 (by unfold pm.release;rw[h1];rfl)) (fun h1=>?_);obtain⟨x,hx,hxid⟩:=pm.Dl hI.rise h1;have hil:=(List.getElem?_eq_some_iff.1 hx).1;have hxm:=List.mem_of_getElem? hx;refine Kl k01.wf (hσ.keep hw k01) (by omega) fun m2 am cm k2=>⟨_,_,_,rfl,?_⟩
 have k02:=k01.trans k2;refine KF k02.wf (hp.keep hw k02) fun m3 k3=>⟨_,rfl,?_⟩
 have k03:=k02.trans k3;have e2:pm.ma p n2=pm.ma p σ.sems.length:=by rw[hl2]
 rw[e2];refine eV (fun h2=>same _ _ k03 (by unfold pm.release;rw[h1,h2];rfl)) (fun h2=>?_);obtain⟨ss0,hA0,hS0⟩:=(hσ.keep hw k03).servs;obtain⟨v0,hv0,hR0⟩:=hS0.get' hx;obtain⟨jl0,hj0,hj0'⟩:=hR0.jobs;have hjl:v0.jn=x.jobs.length:=by rw[<-hj0'.len,hj0.1]
 refine hA0.open (k:=pm.at_ σ.servs id) hv0 fun b0 o0 hc0=>⟨_,_,_,hc0 6 _ rfl,?_⟩
 have e3:leI 8 (aQ v0.jn)=leI 8 (aQ x.jobs.length):=by rw[hjl]
 rw[e3];refine bQ (fun h3=>same _ _ k03 (by unfold pm.release;rw[h1,h2,hx];simp only[h3];rfl)) (fun h3=>?_);have h3':=mg.1 h3;simp only[pm.iG]at h3';obtain⟨hn1,hn2⟩:=hI.num x hxm;obtain⟨hpg,_⟩:=pm.Bn.1 h2;have enum:aJ .i64 x.num 1=x.num+1:=fq (by omega) (by omega);obtain⟨j1,j2⟩:=pm.Bo (n:=x.num+1) h2 (by omega);refine uV k03.wf (hσ.keep hw k03) (sg hI.toIw) fun m4 lam b1 d1 b2 d2 b3 d3 ss js ls qs hO=>⟨_,_,_,_,_,_,_,_,_,_,_,rfl,?_⟩
 have hE:=OwE.start (hO.old0 hw k03);obtain⟨v,hv⟩:∃v,ss[pm.at_ σ.servs id]? = some v:=⟨_,List.getElem?_eq_getElem (by rw[hE.ow.s1n];omega)⟩;generalize hi:pm.at_ σ.servs id=i at *
 have kb:Keep m4 (bump m4 1):=(Keep.refl hE.wf).bump;have hE0:=hE.then kb;obtain⟨b,o,rfl,hlb,hc⟩:=hE0.ow.atS hv;obtain⟨d0,dj⟩:=hE0.ow.ds i v x hv hx;refine⟨⟨by omega,by omega⟩,?_⟩;rw[ed];refine⟨_,hc 9 _ rfl,?_⟩;obtain⟨g1,hE1⟩:=hE0.setS (x':={ x with num:=x.num+1 }) (v':={ v with num:=x.num+1 }) (k:=9) (vs:=[.int .i64 (x.num+1)]) hv hx rfl (by simp) rfl ⟨rfl,rfl,rfl⟩ rfl ⟨d0.id,d0.s,d0.sec,d0.held,rfl,d0.ran⟩;have evn:aJ .i64 v.num 1=x.num+1:=by rw[d0.num,enum]
 rw[evn];refine⟨g1,?_⟩;rw[dh];generalize wr (bump m4 1) b (o+Int.toNat (i:Int)*11+9) [.int .i64 (x.num+1)]=m5 at hE1;have hv1:=fi (y:={ v with num:=x.num+1 }) hv;have hx1:=fi (y:={ x with num:=x.num+1 }) hx;obtain⟨b',o',e,_,hc1⟩:=hE1.ow.atS hv1;cases e;refine⟨_,hc1 9 _ rfl,?_⟩;refine L5 hE1.wf (hp.keep hw hE1.ow.keep) hpg fun m6 aj cj k6 hAj hnj=>?_
 rw[j1]at hAj ⊢;simp only[cond_true];have hAj:Arr encP 2 m6 aj np p:=by
  rcases hAj with h|h
  .exact h
  .cases h
 refine⟨_,_,_,_,_,_,_,rfl,?_⟩;have hE2:=hE1.then k6;obtain⟨lam3,hE3,hlp,hch⟩:=hE2.hold rP (by omega) hAj (fun b hb=>.inl (hE1.ow.noNew (hnj b hb))) (fun b hb hs=>by cases hs);have hlb3:lam3 b = .sv:=by rw[(hch b).2 (by rw[hlb];simp)];exact hlb
 obtain⟨b',o',e,_,hc3⟩:=(hE3.then ((Keep.refl hE3.wf).bump (n:=12))).ow.atS hv1;cases e;refine⟨_,_,_,hc3 6 _ rfl,?_⟩;have x61:(bump m6 1).nx=m6.nx+1:=rfl;have kP:Keep m6 (addO (bump m6 12) ((bump m6 1).nx+6) (row [.int .i64 (x.num+1),.slice aj np cj,.int .i64 0,.int .i64 0] gO false)):=((Keep.refl hE3.wf).bump (n:=12)).addO (by omega) (by show (bump m6 1).nx+6<m6.nx+12;omega);have hRj:Row (addO (bump m6 12) ((bump m6 1).nx+6) (row [.int .i64 (x.num+1),.slice aj np cj,.int .i64 0,.int .i64 0] gO false)) ((bump m6 1).nx+6) (encJ ⟨x.num+1,aj,np,cj,0,0⟩) gO false:=Row.of_row (by rw[iH,if_pos rfl];rfl);generalize addO (bump m6 12) ((bump m6 1).nx+6) (row [.int .i64 (x.num+1),.slice aj np cj,.int .i64 0,.int .i64 0] gO false)=m7 at kP hRj;have hE4:=hE3.then kP;have hd:DpJob m7 lam3 ⟨x.num+1,aj,np,cj,0,0⟩ ⟨x.num+1,p,0,0⟩:=⟨rfl,rfl,rfl,hAj.keep hE3.wf kP,hlp⟩;have hjv:v.jn<=900000:=by
  have h1:=(hE0.ow.jb i v hv).arr ic;have h2:=dj.len;have h3:v.jn=x.jobs.length:=by rw[<-h2,h1.1]
  omega
 obtain⟨m8,r1,r2,hE5⟩:=hE4.pushJ (jx:=⟨x.num+1,p,0,0⟩) (xa:=some ⟨(bump m6 1).nx+6,0,none⟩) hv1 hx1 rfl rfl (hRj.first1 rfl) hd hjv;refine⟨_,_,_,m8,r1,r2,?_⟩;rw[dh,dh];have hno7:lam3 m7.nx = .no:=hE4.ow.noNew (Nat.le_refl _);have hlb5:iD lam3 m7.nx (.jb i) b = .sv:=by rw[ft (fun e=>by rw[e,hno7]at hlb3;cases hlb3)];exact hlb3
 have hst:({ ({ σ with servs:=σ.servs.set i { x with num:=x.num+1 } }:pm.St)with servs:=(({ σ with servs:=σ.servs.set i { x with num:=x.num+1 } }:pm.St).servs).set i { ({ x with num:=x.num+1 }:pm.Serv)with jobs:=({ x with num:=x.num+1 }:pm.Serv).jobs++[⟨x.num+1,p,0,0⟩] } }:pm.St) = { σ with servs:=σ.servs.set i { x with num:=x.num+1,jobs:=x.jobs++[⟨x.num+1,p,0,0⟩] } }:=by
  simp[List.set_set]
 have hE5:=hE5.cast hst rfl;generalize wr m8 b (o+Int.toNat (i:Int)*11+6) [.slice (some ⟨m7.nx,0,none⟩) (v.jn+1) (v.jn+1)]=m9 at hE5;generalize iD lam3 m7.nx (.jb i)=lam5 at *;have hv5:=fi (y:={ v with num:=x.num+1,ja:=some ⟨m7.nx,0,none⟩,jn:=v.jn+1,jc:=v.jn+1 }) hv1;have hx5:=fi (y:={ x with num:=x.num+1,jobs:=x.jobs++[⟨x.num+1,p,0,0⟩] }) hx;have k9:Keep m9 (bump m9 9):=(Keep.refl hE5.wf).bump;obtain⟨b',o',e,_,hc5⟩:=(hE5.then k9).ow.atS hv5;cases e;refine⟨_,hc5 9 _ rfl,?_⟩;refine sC k9.wf fun m10 k10=>⟨_,_,_,_,rfl,?_⟩
 rw[dh];have x9:(bump m9 9).nx=m9.nx+9:=rfl;have x10:=k10.nx;have k11:Keep m9 (addO m10 (m9.nx+7) (row [.int .i64 now,.int .i64 1,.int .i64 id,.int .i64 (x.num+1)] t_model_Event false)):=(k9.trans k10).addO (by omega) (by omega);have hRe:Row (addO m10 (m9.nx+7) (row [.int .i64 now,.int .i64 1,.int .i64 id,.int .i64 (x.num+1)] t_model_Event false)) (m9.nx+7) (encEv ⟨now,1,id,x.num+1⟩) t_model_Event false:=Row.of_row (by rw[iH,if_pos rfl];rfl);generalize addO m10 (m9.nx+7) (row [.int .i64 now,.int .i64 1,.int .i64 id,.int .i64 (x.num+1)] t_model_Event false)=m11 at k11 hRe;have hE6:=hE5.then k11;have x11:=k11.nx;have hbl:b<m9.nx:=hE5.ow.lab b (by rw[hlb5];simp);have erel:pm.release σ id p=(bif !x.idle then ({ σ with servs:=σ.servs.set i { x with num:=x.num+1,jobs:=x.jobs++[⟨x.num+1,p,0,0⟩] } },[pm.eI σ 1 id (x.num+1)],0) else
   bif eX (pm.gn x.s σ.now).2 0 then (σ,[],(pm.gn x.s σ.now).2) else
   ({ σ with servs:=σ.servs.set i { x with num:=x.num+1,jobs:=x.jobs++[⟨x.num+1,p,0,0⟩],s:=(pm.gn x.s σ.now).1 } },[pm.eI σ 1 id (x.num+1),pm.eI σ 9 id 0],0)):=by
  unfold pm.release;rw[h1,h2,hi,hx];simp only[h3,enum,j1];rfl
 refine fJ (fun f:Option Addr->Nat->Nat->Mem->Prop=>∀a n c mm τ evs lam ss js ls qs,OwE (fun _=>.own true) (fun _=>.own true) m mm lam (some ⟨b,o,none⟩) n1 d1 b2 n2 d2 b3 n3 d3 ss js ls qs τ none 0 0 []->Arr encEv 4 mm a n evs->n<=2->pm.release σ id p=(τ,evs,0)->τ.m = σ.m->τ.now = σ.now->f a n c mm) ?_ ?_
 .intro a n c mm τ evs lam' ss' js' ls' qs' hE' hA' hn' he em' en';rw[he]at h;exact h mm _ _ _ _ _ _ a n c hE'.ow.keep (hE'.ow.reads (by rw[em'];exact hσ.em) (by rw[en'];exact en) kN) hA' hn'
 .intro J hJ;obtain⟨b',o',e,_,hc6⟩:=hE6.ow.atS hv5;cases e;refine⟨_,hc6 0 _ rfl,_,hc6 1 _ rfl,_,hc6 2 _ rfl,_,hc6 3 _ rfl,_,hc6 4 _ rfl,_,hc6 5 _ rfl,_,_,_,hc6 6 _ rfl,_,hc6 7 _ rfl,_,hc6 8 _ rfl,_,hc6 9 _ rfl,_,hc6 10 _ rfl,?_⟩;refine FI hE6.wf fun m13 k13=>⟨_,rfl,?_⟩
  have evs:v.s=x.s:=d0.s;have eid:dO v.s.mode 0=x.idle:=by unfold pm.Serv.idle;rw[evs]
  rw[eid];have hE7:=hE6.then k13;have hRe7:=k13.row hE6.wf hRe;have hAe:∀mm,Row mm (m9.nx+7) (encEv ⟨now,1,id,x.num+1⟩) t_model_Event false->Arr encEv 4 mm (some ⟨m9.nx+7,0,none⟩) 1 [pm.eI σ 1 id (x.num+1)]:=fun mm hR=>by
   have:=Arr.of_row gN (l:=[(⟨now,1,id,x.num+1⟩:pm.Ev)]) (m:=mm) (b:=m9.nx+7) (by simpa using hR);unfold pm.eI;rw[<-en];exact this
  refine bQ (fun h4=>?_) (fun h4=>?_)
  .rw[h4]at erel;simp only[Bool.not_true,cond_false]at erel;have k3':Keep m13 (bump m13 13):=(Keep.refl hE7.wf).bump;obtain⟨b',o',e,_,hc7⟩:=(hE7.then k3').ow.atS hv5;cases e;refine⟨_,hc7 1 _ rfl,_,hc7 2 _ rfl,_,hc7 3 _ rfl,_,hc7 4 _ rfl,_,hc7 5 _ rfl,?_⟩;refine Kp k3'.wf fun m14 k14=>⟨_,_,_,_,_,_,rfl,?_⟩
   have ev:(⟨v.s.q,v.s.p,v.s.bud,v.s.due,v.s.mode⟩:pm.Srv)=x.s:=d0.s;rw[ev];rw[show pm.gn x.s σ.now=pm.gn x.s now by rw[en]]at erel;generalize hW:pm.gn x.s now=W at *;have x14:=k14.nx;have x13:(bump m13 13).nx=m13.nx+13:=rfl;have kA:Keep m13 (addO m14 (m13.nx+10) (row [.int .i64 (0:Int),.int .i64 (0:Int),.int .i64 (0:Int),.int .i64 (0:Int),.int .i64 (0:Int)] fY false)):=(k3'.trans k14).addO (by omega) (by omega);have hR:Row (addO m14 (m13.nx+10) (row [.int .i64 (0:Int),.int .i64 (0:Int),.int .i64 (0:Int),.int .i64 (0:Int),.int .i64 (0:Int)] fY false)) (m13.nx+10) [.int .i64 (0:Int),.int .i64 (0:Int),.int .i64 (0:Int),.int .i64 (0:Int),.int .i64 (0:Int)] fY false:=Row.of_row (by rw[iH,if_pos rfl]);generalize addO m14 (m13.nx+10) (row [.int .i64 (0:Int),.int .i64 (0:Int),.int .i64 (0:Int),.int .i64 (0:Int),.int .i64 (0:Int)] fY false)=m15 at kA hR;refine⟨hR.okW (by have:=kA.fl;have:=hE7.wf.1;omega) (by simp),?_⟩;rw[dh,dh];have hR2:=hR.wr (o:=0) (vs:=[.int .i64 W.1.q,.int .i64 W.1.p,.int .i64 W.1.bud,.int .i64 W.1.due,.int .i64 W.1.mode]) (by simp);change Row _ _ [.int .i64 W.1.q,.int .i64 W.1.p,.int .i64 W.1.bud,.int .i64 W.1.due,.int .i64 W.1.mode] _ _ at hR2;have kB:Keep m13 (wr m15 (m13.nx+10) 0 [.int .i64 W.1.q,.int .i64 W.1.p,.int .i64 W.1.bud,.int .i64 W.1.due,.int .i64 W.1.mode]):=kA.wr (by omega);generalize wr m15 (m13.nx+10) 0 [.int .i64 W.1.q,.int .i64 W.1.p,.int .i64 W.1.bud,.int .i64 W.1.due,.int .i64 W.1.mode]=m16 at kB hR2;have hE8:=hE7.then kB;refine bQ (fun h5=>?_) (fun h5=>?_)
   .rw[h5,cond_true]at erel;exact same m16 _ hE8.ow.keep erel
   .rw[h5,cond_false]at erel;refine⟨_,by rw[hR2.rd];rfl,_,by rw[hR2.rd];rfl,_,by rw[hR2.rd];rfl,_,by rw[hR2.rd];rfl,_,by rw[hR2.rd];rfl,?_⟩;obtain⟨d5,dj5⟩:=hE8.ow.ds i _ _ hv5 hx5;obtain⟨g9,hE9⟩:=hE8.setS (x':={ x with num:=x.num+1,jobs:=x.jobs++[⟨x.num+1,p,0,0⟩],s:=W.1 }) (v':={ v with num:=x.num+1,ja:=some ⟨m7.nx,0,none⟩,jn:=v.jn+1,jc:=v.jn+1,s:=W.1 }) (k:=1) (vs:=[.int .i64 W.1.q,.int .i64 W.1.p,.int .i64 W.1.bud,.int .i64 W.1.due,.int .i64 W.1.mode]) hv5 hx5 rfl (by simp) rfl ⟨rfl,rfl,rfl⟩ rfl ⟨d0.id,rfl,d0.sec,d0.held,rfl,d0.ran⟩;refine⟨g9,?_⟩;rw[dh];have hne:m9.nx+7≠b:=by omega
    have hRe9:Row (wr m16 b (o+Int.toNat (i:Int)*11+1) [.int .i64 W.1.q,.int .i64 W.1.p,.int .i64 W.1.bud,.int .i64 W.1.due,.int .i64 W.1.mode]) (m9.nx+7) (encEv ⟨now,1,id,x.num+1⟩) t_model_Event false:=(kB.row hE7.wf hRe7).congr (mA hne);generalize wr m16 b (o+Int.toNat (i:Int)*11+1) [.int .i64 W.1.q,.int .i64 W.1.p,.int .i64 W.1.bud,.int .i64 W.1.due,.int .i64 W.1.mode]=m17 at hE9 hRe9;refine sC hE9.wf fun m18 k18=>⟨_,_,_,_,rfl,?_⟩
    rw[dh];have k19:Keep m17 (newO m18 (row [.int .i64 now,.int .i64 9,.int .i64 id,.int .i64 0] t_model_Event false)):=k18.newO;have hRf:Row (newO m18 (row [.int .i64 now,.int .i64 9,.int .i64 id,.int .i64 0] t_model_Event false)) m18.nx [.int .i64 now,.int .i64 9,.int .i64 id,.int .i64 0] t_model_Event false:=Row.newO;generalize newO m18 (row [.int .i64 now,.int .i64 9,.int .i64 id,.int .i64 0] t_model_Event false)=m19 at k19 hRf;have hRe19:=k19.row hE9.wf hRe9;have hRe19':=hRe19;obtain⟨tr,hg,_⟩:=hRe19';have hap:=qU (cx:=cx) (t:=bm) (e:=t_model_Event) (s:=4) (m:=m19) (n:=1) (k:=1) (c:=1) (ck:=1) (a:=some ⟨m9.nx+7,0,none⟩) (v:=some ⟨m18.nx,0,none⟩) (old:=encEv ⟨now,1,id,x.num+1⟩) (new:=[.int .i64 now,.int .i64 9,.int .i64 id,.int .i64 0]) (by kernel_rfl)
     (by unfold giveUp;simp only[hg]) (hRe19.first1 rfl) rfl (hRf.first1 rfl) rfl rfl (by omega) (by omega)
    refine⟨_,_,_,_,hap,?_⟩;have k20:Keep m19 (newO m19 (row (encEv ⟨now,1,id,x.num+1⟩++[.int .i64 now,.int .i64 9,.int .i64 id,.int .i64 0]) t_model_Event true)):=(Keep.refl k19.wf).newO;have hR20:Row (newO m19 (row (encEv ⟨now,1,id,x.num+1⟩++[.int .i64 now,.int .i64 9,.int .i64 id,.int .i64 0]) t_model_Event true)) m19.nx (([⟨now,1,id,x.num+1⟩,⟨now,9,id,0⟩]:List pm.Ev).flatMap encEv) t_model_Event true:=Row.newO;refine hJ _ 2 2 _ _ [pm.eI σ 1 id (x.num+1),pm.eI σ 9 id 0] _ _ _ _ _ ((hE9.then k19).then k20) ?_ (by omega) (erel.trans ?_) rfl rfl
    .unfold pm.eI;rw[<-en];exact Arr.of_row gN hR20
    .simp[List.set_set]
  .rw[h4]at erel;simp only[Bool.not_false,cond_true]at erel;exact hJ _ 1 1 m13 _ _ _ _ _ _ _ hE7 (hAe m13 hRe7) (by omega) erel rfl rfl
end
end Go.Proofs.YtiehbnmpaeedpaaGreat.vc
namespace Go.Proofs.YtiehbnmpaeedpaaGreat.vc
open Go Go.AX
set_option maxRecDepth 100000
noncomputable section
end
end Go.Proofs.YtiehbnmpaeedpaaGreat.vc
namespace Go.Proofs.YtiehbnmpaeedpaaGreat.vc
open Go Go.AX
section
variable {B:Int}{m:Mem}{Q:Value->Mem->Prop}{M now:Int}{a a' a1 a2 a3 b1 b2 b3:Option Addr}{n n' c c' n1 c1 n2 c2 n3 c3 n4 n5 n6 d1 d2 d3:Nat}{σ : pm.St}
theorem L6{x:Int}(hw:Wf m)(h:∀m',Keep m m'->Q (.bool (pm.qL x)) m'):ah cx ny [.int .i64 x] m Q:=by
 apply yW;unfold vE;refine bQ (fun h1=>?_) (fun h1=>?_)
 .exact dW h (Keep.refl hw) (by unfold pm.qL;rw[h1];rfl)
 .exact dW h (Keep.refl hw) (by unfold pm.qL;rw[h1];rfl)
theorem L8{l:List Int}(hw:Wf m)(ha:Arr encI 1 m a n l)(hn:n<=4611686018427387904)
  (h:∀m',Keep m m'->Q (.int .i64 (match l.findIdx? pm.qL with|some i=>(i:Int)|none=>-1)) m'):ah cx jd [.slice a n c,.func (.func ny) #[] #[]] m Q:=by
 apply pt;unfold lu;refine AF hn (fun k mm=>Keep m mm/\∀x∈l.take k,pm.qL x=false) ⟨Keep.refl hw,by simp⟩ ?_;rintro k m1 hk ⟨k1,hno⟩ I w hI;refine fu (fun hlt=>?_) (fun hge=>?_)
 .obtain⟨x,hx⟩:∃x,l[k]? = some x:=⟨_,List.getElem?_eq_getElem (by rw[ha.1];exact hlt)⟩;have hkl:=(List.getElem?_eq_some_iff.1 hx).1;refine(ha.keep hw k1).open (k:=k) hx fun b o hc=>⟨_,hc 0 _ rfl,?_⟩
  refine L6 k1.wf fun m2 k2=>⟨_,rfl,?_⟩
  refine bQ (fun ht=>?_) (fun ht=>?_)
  .have e:l.findIdx? pm.qL=some k:=by
    rw[List.findIdx?_eq_some_iff_getElem];refine⟨hkl,by rw[<-(List.getElem?_eq_some_iff.1 hx).2]at ht;exact ht,fun j hj=>?_⟩;have:=hno l[j] (List.mem_of_getElem? (i:=j) (by rw[List.getElem?_take,if_pos hj,List.getElem?_eq_getElem (by omega)]));rw[this];simp
   have:=h m2 (k1.trans k2);rw[e]at this;exact this
  .refine hI m2 hlt ⟨k1.trans k2,fun y hy=>?_⟩;rw[List.take_add_one,hx]at hy;rcases List.mem_append.1 hy with hy|hy
   .exact hno y hy
   .simp at hy;subst hy;exact ht
 .have e:l.findIdx? pm.qL=none:=by
   rw[List.findIdx?_eq_none_iff];intro y hy;rw[<-List.take_of_length_le (l:=l) (i:=k) (by rw[ha.1];exact hge)]at hy;exact hno y hy
  have:=h m1 k1;rw[e]at this;exact this
theorem rQ{α β γ : Type}{R:α->β->Prop}{f:γ->α}{g:γ->β}(h:∀x,R (f x) (g x)):∀l:List γ,All2 R (l.map f) (l.map g)
 | []=>.nil
 | x::r=>.cons (h x) (rQ h r)
theorem zn{cpus:Int}{most:List Int}(hw:Wf m)(ha:Arr encI 1 m a n most)
  (h0:∀m',Keep m m'->(pm.new cpus most).2≠0->pm.new cpus most=(⟨0,0,[],[],[]⟩,1)->Q (.tuple #[.agg #[.int .i64 0,.int .i64 0,.slice none 0 0,.slice none 0 0,.slice none 0 0],.int .i64 1]) m')
  (h1:∀m' b2 d2,Keep m m'->(pm.new cpus most).2=0->RdSt cx m' cpus 0 none 0 b2 n none 0 0 (pm.new cpus most).1->Q (.tuple #[.agg #[.int .i64 cpus,.int .i64 0,.slice none 0 0,.slice b2 n d2,.slice none 0 0],.int .i64 0]) m') :
  ah cx tE [.int .i64 cpus,.slice a n c] m Q:=by
 apply Ba;unfold yh;have hlm:most.length=n:=ha.1;have en:pm.new cpus most=bif (dJ cpus 1 || (dJ 64 cpus || (dJ 8 (aQ n) || most.any pm.qL))) then (⟨0,0,[],[],[]⟩,1) else (⟨cpus,0,[],most.map fun n=>⟨n,0,[],false⟩,[]⟩,0):=by unfold pm.new;rw[hlm]
 refine fJ (fun f:Bool->Mem->Prop=>∀b mm,Keep m mm->b=(dJ cpus 1 || (dJ 64 cpus || (dJ 8 (aQ n) || most.any pm.qL)))->f b mm) ?_ ?_
 .rintro b mm k rfl;refine bQ (fun hb=>?_) (fun hb=>?_)
  .rw[hb,cond_true]at en;exact h0 mm k (by rw[en];simp) en
  .rw[hb,cond_false]at en;rw[en]at h1;simp only[Bool.or_eq_false_iff,eL,pm.iG]at hb;have hn8:n<=8:=by have:=hb.2.2.1;unfold aQ at this;omega
   refine⟨fun x31 xc xc1 ac nc cc a2 n2 c2 a5 n5 c5 m2 w=>∃k:Nat,x31=(k:Int)/\k<=n/\w=n-k/\xc=cpus/\xc1=0/\ac=none/\nc=0/\cc=0/\a5=none/\n5=0/\c5=0/\n2=k/\Acc m m2 a2 n2 c2 4 jP (((most.take k).map fun x=>(⟨x,0,none,0,0,false⟩:LV)).flatMap encL),⟨n,0,rfl,Nat.zero_le _,rfl,rfl,rfl,rfl,rfl,rfl,rfl,rfl,rfl,rfl,by simpa using Acc.nil k.bump _ _⟩,?_⟩;rintro x31 xc xc1 ac nc cc a2 n2 c2 a5 n5 c5 m2 w ⟨k',rfl,hk,rfl,rfl,rfl,rfl,rfl,rfl,rfl,rfl,rfl,rfl,hacc⟩;refine fu (fun hlt=>?_) (fun hge=>?_)
   .obtain⟨x,hx⟩:∃x,most[n2]? = some x:=⟨_,List.getElem?_eq_getElem (by omega)⟩;refine(ha.keep hw hacc.keep).open (k:=n2) hx fun b o hc=>⟨_,hc 0 _ rfl,?_⟩
    rw[dh];obtain⟨m4,q1,q2,q3,q4,q5⟩:=hacc.push (cx:=cx) (t:=jj) (vs:=encL ⟨x,0,none,0,0,false⟩) (by kernel_rfl) rfl rfl (by omega);refine⟨_,_,_,m4,q1,n-(n2+1),by omega,n2+1,?_,by omega,rfl,rfl,rfl,rfl,rfl,rfl,rfl,rfl,rfl,rfl,?_⟩
    .rw[fq (by omega) (by omega)];rfl
    .have e:((most.take (n2+1)).map fun x=>(⟨x,0,none,0,0,false⟩:LV)).flatMap encL=((most.take n2).map fun x=>(⟨x,0,none,0,0,false⟩:LV)).flatMap encL++encL ⟨x,0,none,0,0,false⟩:=by
      rw[List.take_add_one,hx];simp
     rw[e];exact q2
   .obtain rfl:n2=n:=by omega
    have htk:most.take n2=most:=List.take_of_length_le (by omega);rw[htk]at hacc;refine h1 m2 a2 c2 hacc.keep rfl ⟨rfl,rfl,⟨[],jH.nil,.nil⟩,⟨_,hacc.arr nG (by omega),?_⟩,jH.nil,Nat.le_refl _,.inl rfl⟩;exact rQ (fun x=>⟨rfl,rfl,rfl,jH.nil⟩) most
 .intro J hJ;have k1:Keep m (bump m 1):=(Keep.refl hw).bump;refine bQ (fun h1=>hJ _ _ k1 (by rw[h1];rfl)) (fun h1=>?_);refine bQ (fun h2=>hJ _ _ k1 (by rw[h1,h2];rfl)) (fun h2=>?_);refine bQ (fun h3=>hJ _ _ k1 (by rw[h1,h2,h3];rfl)) (fun h3=>?_);apply nt;unfold kC;have hn8:n<=8:=by rw[eL]at h3;unfold aQ at h3;omega
  refine L8 k1.wf (ha.keep hw k1) (by omega) fun m2 k2=>⟨_,rfl,_,rfl,hJ _ _ (k1.trans k2) ?_⟩
  rw[h1,h2,h3,Bool.false_or,Bool.false_or,Bool.false_or];exact FF
end
end Go.Proofs.YtiehbnmpaeedpaaGreat.vc
namespace Go.Proofs.YtiehbnmpaeedpaaGreat.vc
open Go Go.AX
set_option maxRecDepth 100000
noncomputable section
end
end Go.Proofs.YtiehbnmpaeedpaaGreat.vc
namespace Go.Proofs.YtiehbnmpaeedpaaGreat.vc
open Go Go.AX
section
variable {B:Int}{m0 m:Mem}{Q:Value->Mem->Prop}{M now:Int}{a1 a2 a3:Option Addr}{n1 c1 n2 c2 n3 c3:Nat}{σ : pm.St}
end
end Go.Proofs.YtiehbnmpaeedpaaGreat.vc
namespace Go.Proofs.YtiehbnmpaeedpaaGreat.vc
open Go Go.AX
set_option maxRecDepth 100000
noncomputable section
def sA(dK:Int)(dH dM:Option Addr)(dL dI bM dN:Nat)(m:Mem)(Q:Value->Mem->Prop):Prop:=
 ah cx kJ [] m fun cB bO=>∃b6,cB=(.bool b6)/\splitB (!b6) (Q (.bool false) bO) (ah cx tE [.int .i64 dK,.slice dH dL dI] bO fun de aq=>∃b7 bi aV bD b8 b4 ba aY br bG bk aL,de=(.tuple #[.agg #[.int .i64 b7,.int .i64 bi,.slice aV bD b8,.slice b4 ba aY,.slice br bG bk],.int .i64 aL])/\(eS (fun(H:Mem)=>dR (newO H (.map [] 0)) fun y=>dR (newO y (.map [] 0)) fun aj=>(dR (newO aj (.map [] 0)) fun c3=>∃s:Int->Int->Int->Option Addr->Nat->Nat->Option Addr->Nat->Nat->Option Addr->Nat->Nat->Mem->Nat->Prop,(∃cz:Nat,s 0 b7 bi aV bD b8 b4 ba aY br bG bk c3 cz)/\∀e af X ae ag W O R U T ac Y g M,s e af X ae ag W O R U T ac Y g M->splitB (dJ e (aQ bM)) ((0<=e/\e<((bM:Nat):Int))/\(ec dM fun u t=>∃ay,rd g u (t+Int.toNat e*6)=some (.int .i64 ay)/\∃au,rd g u (t+Int.toNat e*6+1)=some (.int .i64 au)/\∃cc,rd g u (t+Int.toNat e*6+2)=some (.int .i64 cc)/\∃a0,rd g u (t+Int.toNat e*6+3)=some (.int .i64 a0)/\∃bW,rd g u (t+Int.toNat e*6+4)=some (.int .i64 bW)/\∃aX aB aW,rd g u (t+Int.toNat e*6+5)=some (.slice aX aB aW)/\splitB (dJ 12 (aQ aB)) (Q (.bool true) (bump g 1)) (splitB (dO ay 0) (ah cx tu [.agg #[.int .i64 af,.int .i64 X,.slice ae ag W,.slice O R U,.slice T ac Y],.int .i64 au,.int .i64 cc,.int .i64 a0] (bump g 1) fun cg cP=>∃bZ aM aT a6 bP aU aZ aH aO aF bA cu,cg=(.tuple #[.agg #[.int .i64 bZ,.int .i64 aM,.slice aT a6 bP,.slice aU aZ aH,.slice aO aF bA],.int .i64 cu])/\∃aR:Nat,aR<M/\s (aJ .i64 e 1) bZ aM aT a6 bP aU aZ aH aO aF bA cP aR) (splitB (dO ay 2) (ah cx po [.agg #[.int .i64 af,.int .i64 X,.slice ae ag W,.slice O R U,.slice T ac Y],.int .i64 au,.slice aX aB aW] (bump g 1) fun du cr=>∃bp a9 bo a7 a2 bS a8 bX aD b1 bL ct c4 dn cU,du=(.tuple #[.agg #[.int .i64 bp,.int .i64 a9,.slice bo a7 a2,.slice bS a8 bX,.slice aD b1 bL],.slice ct c4 dn,.int .i64 cU])/\∃bC:Nat,bC<M/\s (aJ .i64 e 1) bp a9 bo a7 a2 bS a8 bX aD b1 bL cr bC) (∃aA:Int->Int->Int->Option Addr->Nat->Nat->Option Addr->Nat->Nat->Option Addr->Nat->Nat->Mem->Nat->Prop,(∃cq:Nat,aA 0 af X ae ag W O R U T ac Y (bump g 1) cq)/\∀ad G B L E z D K I C N F P cb,aA ad G B L E z D K I C N F P cb->(eS (fun(dA:Mem)=>ah cx sB [.agg #[.int .i64 G,.int .i64 B,.slice L E z,.slice D K I,.slice C N F]] (bump dA 1) fun cl aC=>∃ab aE Z w bT p k bl bY bB ca cC dy cH bb,cl=(.tuple #[.agg #[.int .i64 ab,.int .i64 aE,.slice Z w bT,.slice p k bl,.slice bY bB ca],.slice cC dy cH,.int .i64 bb])/\splitB (eX bb 0) (Q (.bool false) (bump aC 1)) (∃az:Int->Mem->Nat->Prop,(∃dr:Nat,az 0 (bump aC 1) dr)/\∀d f bv,az d f bv->splitB (dJ d (aQ w)) ((0<=d/\d<((w:Nat):Int))/\(ec Z fun n i=>∃j,rd f n (i+Int.toNat d*11)=some (.int .i64 j)/\∃ax,rd f n (i+Int.toNat d*11+1)=some (.int .i64 ax)/\∃cF,rd f n (i+Int.toNat d*11+2)=some (.int .i64 cF)/\∃ap,rd f n (i+Int.toNat d*11+3)=some (.int .i64 ap)/\∃aw,rd f n (i+Int.toNat d*11+4)=some (.int .i64 aw)/\∃cf,rd f n (i+Int.toNat d*11+5)=some (.int .i64 cf)/\∃dw di dC,rd f n (i+Int.toNat d*11+6)=some (.slice dw di dC)/\∃aP,rd f n (i+Int.toNat d*11+7)=some (.int .i64 aP)/\∃cw,rd f n (i+Int.toNat d*11+8)=some (.int .i64 cw)/\∃dv,rd f n (i+Int.toNat d*11+9)=some (.int .i64 dv)/\∃ai,rd f n (i+Int.toNat d*11+10)=some (.int .i64 ai)/\(ah cx sx [.agg #[.int .i64 G,.int .i64 B,.slice L E z,.slice D K I,.slice C N F],.int .i64 j] (bump f 1) fun cO v=>∃dE cD ds cj dd cW co ck cX cR dk dj aa be,cO=(.tuple #[.agg #[.int .i64 dE,.int .i64 cD,.int .i64 ds,.int .i64 cj,.int .i64 dd,.int .i64 cW,.slice co ck cX,.int .i64 cR,.int .i64 dk,.int .i64 dj,.int .i64 aa],.bool be])/\splitB (!be) (Q (.bool false) (bump v 1)) (eS (fun(av:Mem)=>eS (fun(r:Mem)=>splitB (dJ ap 0) (Q (.bool false) r) (splitB (dJ ax ap) (Q (.bool false) r) (∃bt,iA cx r fX (.map (some y.nx)) (.int .i64 j) false=some (.int .i64 bt)/\splitB (dJ ax bt) (Q (.bool false) r) (splitB (dJ ai aa) (Q (.bool false) r) (splitB (dJ (aJ .i64 aa 1) ai) (Q (.bool false) r) (∃bz:Nat,bz<bv/\az (aJ .i64 d 1) r bz)))))) fun bN=>splitB (dO aP 1) (∃bw,iA cx av fX (.map (some H.nx)) (.int .i64 j) false=some (.int .i64 bw)/\∃cd,eZ cx av fX (.map (some H.nx)) (.int .i64 j) (.int .i64 (aJ .i64 bw 1))=some cd/\bN cd) (∃aI,eZ cx av fX (.map (some H.nx)) (.int .i64 j) (.int .i64 0)=some aI/\bN aI)) fun b5=>splitB (dO ai (aJ .i64 aa 1)) (eS (fun(b0:Mem)=>∃aN,iA cx b0 fX (.map (some y.nx)) (.int .i64 j) false=some (.int .i64 aN)/\∃bc,eZ cx b0 fX (.map (some y.nx)) (.int .i64 j) (.int .i64 (aJ .i64 aN 1))=some bc/\b5 bc) fun b3=>∃bF,iA cx (bump v 1) fX (.map (some aj.nx)) (.int .i64 j) false=some (.int .i64 bF)/\splitB (eX aw bF) (isMap (bump v 12) y.nx/\∃bf,eZ cx (bump v 12) fX (.map (some y.nx)) (.int .i64 j) (.int .i64 0)=some bf/\∃a4,eZ cx bf fX (.map (some aj.nx)) (.int .i64 j) (.int .i64 aw)=some a4/\b3 a4) (b3 (bump v 1))) (b5 (bump v 1)))))) (∃al:Int->Mem->Nat->Prop,(∃cZ:Nat,al 0 f cZ)/\∀a ao b2,al a ao b2->splitB (dJ a (aQ k)) (∃S:Int->Int->Mem->Nat->Prop,(∃db:Nat,S 0 0 ao db)/\∀V c b ak,S V c b ak->splitB (dJ c (aQ w)) ((0<=c/\c<((w:Nat):Int))/\(ec Z fun o l=>∃b9,rd b o (l+Int.toNat c*11)=some (.int .i64 b9)/\∃cN,rd b o (l+Int.toNat c*11+1)=some (.int .i64 cN)/\∃c2,rd b o (l+Int.toNat c*11+2)=some (.int .i64 c2)/\∃c5,rd b o (l+Int.toNat c*11+3)=some (.int .i64 c5)/\∃df,rd b o (l+Int.toNat c*11+4)=some (.int .i64 df)/\∃cK,rd b o (l+Int.toNat c*11+5)=some (.int .i64 cK)/\∃c8 cy cL,rd b o (l+Int.toNat c*11+6)=some (.slice c8 cy cL)/\∃bH,rd b o (l+Int.toNat c*11+7)=some (.int .i64 bH)/\∃ar,rd b o (l+Int.toNat c*11+8)=some (.int .i64 ar)/\∃dF,rd b o (l+Int.toNat c*11+9)=some (.int .i64 dF)/\∃dq,rd b o (l+Int.toNat c*11+10)=some (.int .i64 dq)/\(eS (fun(c7:Bool)(A:Mem)=>splitB c7 (splitB (dJ ar 0) (Q (.bool false) (bump A 14)) ((0<=a/\a<((k:Nat):Int))/\(ec p fun dz c6=>∃aG,rd (bump A 14) dz (c6+Int.toNat a*4)=some (.int .i64 aG)/\splitB (leI aG ar) (Q (.bool false) (bump A 14)) (∃bj:Nat,bj<ak/\S (aJ .i64 V 1) (aJ .i64 c 1) (bump A 14) bj)))) (∃bU:Nat,bU<ak/\S V (aJ .i64 c 1) A bU)) fun bE=>splitB (dO bH 2) ((0<=a/\a<((k:Nat):Int))/\(ec p fun ci dl=>∃bI,rd (bump b 15) ci (dl+Int.toNat a*4+1)=some (.int .i64 bI)/\bE (dO bI b9) (bump b 15))) (bE false (bump b 15))))) (eS (fun(c9:Mem)=>∃an:Int->Mem->Nat->Prop,(∃c0:Nat,an 0 c9 c0)/\∀x q bg,an x q bg->((0<=a/\a<((k:Nat):Int))/\(ec p fun cI dx=>∃cY aS c1,rd q cI (dx+Int.toNat a*4+2)=some (.slice cY aS c1)/\splitB (dJ x (aQ aS)) ((0<=a/\a<((k:Nat):Int))/\(ec p fun cM cs=>∃bK bn dp,rd (bump q 22) cM (cs+Int.toNat a*4+2)=some (.slice bK bn dp)/\(0<=x/\x<((bn:Nat):Int))/\(ec bK fun dc cv=>∃bR,rd (bump q 22) dc (cv+Int.toNat x*1)=some (.int .i64 bR)/\∃bd,iA cx (bump q 22) fX (.map (some H.nx)) (.int .i64 bR) false=some (.int .i64 bd)/\(0<=a/\a<((k:Nat):Int))/\(ec p fun cA cE=>∃aK,rd (bump q 22) cA (cE+Int.toNat a*4)=some (.int .i64 aK)/\splitB (dJ (jT .i64 (dY .i64 ab 1) aK) bd) (Q (.bool false) (bump q 22)) (∃bV:Nat,bV<bg/\an (aJ .i64 x 1) (bump q 22) bV))))) (∃bu:Nat,bu<b2/\al (aJ .i64 a 1) q bu)))) fun a1=>(0<=a/\a<((k:Nat):Int))/\(ec p fun dG dD=>∃a3,rd (bump b 32) dG (dD+Int.toNat a*4+1)=some (.int .i64 a3)/\splitB (!((eX a3 0) == (dO V 1))) (Q (.bool false) (bump b 32)) ((0<=a/\a<((k:Nat):Int))/\(ec p fun dB cG=>∃dg bq cp,rd (bump b 32) dB (cG+Int.toNat a*4+2)=some (.slice dg bq cp)/\splitB (leI ab (aQ bq)) ((0<=a/\a<((k:Nat):Int))/\(ec p fun cT dt=>∃da bs cS,rd (bump b 32) cT (dt+Int.toNat a*4+2)=some (.slice da bs cS)/\splitB (dJ 0 (aQ bs)) (Q (.bool false) (bump b 32)) (a1 (bump b 32)))) (a1 (bump b 32))))))) (∃bx:Nat,bx<cb/\aA (aJ .i64 ad 1) ab aE Z w bT p k bl bY bB ca ao bx)))) fun cV=>splitB (dJ ad bW) (splitB (dJ ad 80) (cV P) (∃a5:Nat,a5<M/\s (aJ .i64 e 1) G B L E z D K I C N F P a5)) (∃ce:Nat,ce<M/\s (aJ .i64 e 1) G B L E z D K I C N F P ce))))))) (Q (.bool true) g))) fun cn=>splitB (eX aL 0) (Q (.bool true) (bump aq 1)) (splitB (dJ 30 (aQ bM)) (Q (.bool true) (bump aq 1)) (cn (bump aq 1)))))
theorem vF{dK:Int}{dH dM:Option Addr}{dL dI bM dN:Nat}{m:Mem}{Q:Value->Mem->Prop}(h:sA dK dH dM dL dI bM dN m Q):ah cx sy [.int .i64 dK,.slice dH dL dI,.slice dM bM dN] m Q:=
 ah.of (fn:=Tryz.f3) (LS:=[7,13,15,16,20,21,26]) (ann:=[none,none,none,none,none,some ⟨[2],[],[(7,0,0)],[0],[],2⟩,none,none,none,none,none,some ⟨[2,9,10,11],[(12,.int .i64),(322,.int .i64),(323,.int .i64),(324,.sl),(325,.sl),(326,.sl)],[(7,0,0)],[],[(0,[322,323,324,325,326])],3⟩,none,none,none,none,none,none,none,none,none,none,none,some ⟨[2,9,10,11,12],[(14,.int .i64),(322,.int .i64),(323,.int .i64),(324,.sl),(325,.sl),(326,.sl)],[(7,0,0),(13,4,0)],[4],[(0,[322,323,324,325,326])],6⟩,some ⟨[2,9,10,11,12,14],[],[(7,0,0),(13,4,0)],[0,4],[],7⟩,none,none,none,none,none,none,none,none,none,none,some ⟨[2,9,10,11,12,14],[(19,.int .i64)],[(7,0,0),(13,4,0),(15,8,0)],[0,4,8],[],13⟩,none,none,none,none,none,none,none,none,some ⟨[2,9,10,11,12,14,19],[],[(7,0,0),(13,4,0),(15,8,0),(20,14,0),(21,16,0)],[0,4,8,14,16],[],19⟩,none,some ⟨[2,9,10,11,12,14,19],[],[(7,0,0),(13,4,0),(15,8,0),(20,14,0),(21,16,0)],[0,4,8,14,16],[],18⟩,none,some ⟨[2,9,10,11,12,14,19],[],[(7,0,0),(13,4,0),(15,8,0),(20,14,0),(21,16,0)],[0,4,8,14,16],[],20⟩,none,none,none,none,some ⟨[2,9,10,11,12,14],[(23,.int .i64)],[(7,0,0),(13,4,0)],[0,4],[],14⟩,none,none,none,none,none,none,some ⟨[2,9,10,11,12,14,23],[(24,.int .i64),(25,.int .i64)],[(7,0,0),(13,4,0)],[0,4],[],15⟩,none,none,none,none,some ⟨[2,9,10,11,12,14,23,24,25],[(212,.bool)],[(7,0,0),(13,4,0),(26,16,0)],[0,4,16],[],18⟩,none,none,none,some ⟨[2,9,10,11,12,14,23],[],[(7,0,0),(13,4,0)],[0,4],[],16⟩,none,none,none,some ⟨[2,9,10,11,12,14,23],[(27,.int .i64)],[(7,0,0),(13,4,0)],[0,4],[],17⟩]) eF ez (by kernel_rfl) (by kernel_rfl) (Eq.mp (by kernel_rfl) h)
end
end Go.Proofs.YtiehbnmpaeedpaaGreat.vc
namespace Go.Proofs.YtiehbnmpaeedpaaGreat.vc
open Go Go.AX
section
variable {B:Int}{m0 m:Mem}{lam:Nat->Lb}{wj wq:Nat->Kd}{Q:Value->Mem->Prop}{M now:Int}{a1 a2 a3 ae:Option Addr}{n1 c1 n2 c2 n3 c3 ne ce:Nat}{ss:List SV}{js:Nat->List JV}{ls:List LV}{qs:Nat->List Int}{σ : pm.St}{E:List pm.Ev}
theorem find_ok{id:Int}(hw:Wf m)(hσ : RdSt cx m M now a1 n1 a2 n2 a3 n3 c3 σ)(hI:pm.Iv B σ)
  (h0:∀m',Keep m m'->pm.has σ.servs id=false->Q (.tuple #[.agg #[.int .i64 0,.int .i64 0,.int .i64 0,.int .i64 0,.int .i64 0,.int .i64 0,.slice none 0 0,.int .i64 0,.int .i64 0,.int .i64 0,.int .i64 0],.bool false]) m')
  (h1:∀m' v x,Keep m m'->pm.has σ.servs id=true->σ.servs[pm.at_ σ.servs id]? = some x->x.id=id->RdServ m' v x->Q (.tuple #[.agg #[.int .i64 v.id,.int .i64 v.s.q,.int .i64 v.s.p,.int .i64 v.s.bud,.int .i64 v.s.due,.int .i64 v.s.mode,.slice v.ja v.jn v.jc,.int .i64 v.sec,.int .i64 v.held,.int .i64 v.num,.int .i64 v.ran],.bool true]) m') :
  ah cx sx [.agg #[.int .i64 M,.int .i64 now,.slice a1 n1 c1,.slice a2 n2 c2,.slice a3 n3 c3],.int .i64 id] m Q:=by
 apply As;unfold wM;have k0:Keep m (bump m 2):=(Keep.refl hw).bump;have hz:=hI.len1;have hl1:=hσ.len1;refine xn k0.wf (hσ.keep hw k0) hI.rise (by omega) fun m1 k1=>⟨_,_,rfl,?_⟩
 have k01:=k0.trans k1;refine eV (fun hh=>h0 m1 k01 hh) (fun hh=>?_);obtain⟨x,hx,hxid⟩:=pm.Dl hI.rise hh;have hil:=(List.getElem?_eq_some_iff.1 hx).1;refine uV k01.wf (hσ.keep hw k01) (sg hI.toIw) fun m4 lam b1 d1 b2 d2 b3 d3 ss js ls qs hO=>⟨_,_,_,_,_,_,_,_,_,_,_,rfl,?_⟩
 have hO:=hO.old0 hw k01;obtain⟨v,hv⟩:∃v,ss[pm.at_ σ.servs id]? = some v:=⟨_,List.getElem?_eq_getElem (by rw[hO.s1n];omega)⟩;obtain⟨b,o,rfl,_,hc⟩:=hO.atS hv;refine⟨⟨by omega,by omega⟩,?_⟩;rw[ed];refine⟨_,hc 0 _ rfl,_,hc 1 _ rfl,_,hc 2 _ rfl,_,hc 3 _ rfl,_,hc 4 _ rfl,_,hc 5 _ rfl,_,_,_,hc 6 _ rfl,_,hc 7 _ rfl,_,hc 8 _ rfl,_,hc 9 _ rfl,_,hc 10 _ rfl,?_⟩;obtain⟨p,q⟩:=hO.ds _ v x hv hx;exact h1 m4 v x hO.keep hh hx hxid ⟨p.id,p.s,p.sec,p.held,p.num,p.ran,_,(hO.jb _ v hv).arr ic,q.imp fun _ _ r=>⟨r.num,r.at_,r.done,r.prog⟩⟩
end
end Go.Proofs.YtiehbnmpaeedpaaGreat.vc
