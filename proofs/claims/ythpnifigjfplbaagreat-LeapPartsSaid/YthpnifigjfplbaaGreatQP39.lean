import Derived.Test.YthpnifigjfplbaaGreatQP36
import Derived.Test.YthpnifigjfplbaaGreatQP32
import Derived.KernelRfl
set_option linter.unusedVariables false
set_option linter.unusedSimpArgs false
set_option linter.unusedSectionVars false
namespace Go.Proofs.YthpnifigjfplbaaGreat.vc
open Go Go.AX
section
variable {B:Int} {m0 m:Mem} {lam:Nat->Lb} {Q:Value->Mem->Prop} {M now:Int} {a1 a2 a3:Option Addr} {n1 c1 n2 c2 n3 c3:Nat} {ss:List SV} {js:Nat->List JV} {ls:List LV} {qs:Nat->List Int} {σ : pm.St}
theorem PW(hO:Ow TT (fun _=>.own true) (fun _=>.own true) m0 m lam a1 n1 c1 a2 n2 c2 a3 n3 c3 ss js ls qs σ):(ss.flatMap encS).all (qv m.nx)=true:=by
 rw[List.all_eq_true];intro u hu;obtain⟨v,hv,hu⟩:=List.mem_flatMap.1 hu;obtain⟨i,hi⟩:=List.getElem?_of_mem hv;have hJ:CSl m0 m fC true v.ja v.jn v.jc ((js i).flatMap encJ):=(hO.jb i v hi).1;have hlow:qv m.nx (.slice v.ja v.jn v.jc)=true:=by
  have hlt:=hJ.lt hO.keep.wf;generalize (js i).flatMap encJ=L at hJ;generalize v.ja=a at *;generalize v.jn=n at *;generalize v.jc=c at *;cases hJ with
  | nil=>rfl
  | empty b cc h1 h2=>exact Nat.ble_eq_true_of_le (hlt b (by simp[blk])).2
  | row b n pre l hw h1 h2=>exact Nat.ble_eq_true_of_le (hlt b (by simp[blk])).2
 unfold encS at hu;simp only[List.mem_cons,List.not_mem_nil,or_false]at hu;rcases hu with rfl|rfl|rfl|rfl|rfl|rfl|rfl|rfl|rfl|rfl|rfl
 all_goals first|exact hlow|rfl
theorem Ol{i bv:Nat}{v:SV}(hO:Ow TT (fun _=>.own true) (fun _=>.own true) m0 m lam a1 n1 c1 a2 n2 c2 a3 n3 c3 ss js ls qs σ)(hi:i<=n1)(hR:Row m bv (encS v) dr false)(hbv:∀b∈blk a1,bv≠b)(hv0:v.ja=none/\v.jn=0/\v.jc=0)(hn:n1<=1000)
  (h:∀m',Wf m'->Fr m m' (blk a1)->m'.nx=m.nx+1->Row m' m.nx ((ss.take i++v::ss.drop i).flatMap encS) dr true->Q (.slice (some ⟨m.nx,0,none⟩) (n1+1) (n1+1)) m') :
  ah cx eZ [.slice a1 n1 c1,.int .i64 (i:Int),.slice (some ⟨bv,0,none⟩) 1 1] m Q:=by
 have hw:=hO.keep.wf;have hfl0:m.fl<=m0.nx:=by have:=hO.keep.fl;have:=hO.fl0;omega
 have hLlen:(ss.flatMap encS).length=n1*11:=by rw[dk fE,hO.s1n]
 have hx:dA m 11 1 (.slice (some ⟨bv,0,none⟩) 1 1)=some (encS v):=hR.first1 rfl;by_cases hin:i=n1
 .obtain⟨m',q1,q2,q3,q4,q5⟩:=wh (cx:=vc0.cx) (t:=cO) (e:=dr) (s:=11) (vs:=encS v) (by kernel_rfl) hw hfl0 hO.s1.own hLlen hx rfl rfl (by omega);have hsl:Ih (cW vc0.cx m cO (.slice a1 n1 c1) (some (.int .i64 (i:Int))) none none)=true:=by
   have ht:vc0.cx.un.get cO=some (.slice dr):=by kernel_rfl
   have hs:dL vc0.cx dr=some 11:=by kernel_rfl
   have h1:=hO.s1.own;subst hin;generalize ss.flatMap encS=L at h1;cases h1 with
   | nil=>
    unfold cW;have b1:fg 0 (some (.int .i64 ((0:Nat):Int))) 0=some 0:=dC (Nat.le_refl _);simp only[ht,hs,mi,b1];rfl
   | empty b cc h2 h3=>
    rw[eO (lo:=some (.int .i64 ((0:Nat):Int))) (hi:=none) ht hs rfl (dC (Nat.le_refl _)) (by unfold sameSize;rw[h3]) (Nat.le_refl _)];rfl
   | row b n l h0 h2 h3=>
    rw[eO (hi:=none) ht hs rfl (dC (Nat.le_refl _)) (h3.sameSize hs) (Nat.le_refl _)];rfl
  refine ah.ov dh HQ (r:=.slice (some ⟨m.nx,0,none⟩) (n1+1) (n1+1)) (u':=m') ?_ (h m' q2 q3 q4 ?_)
  .show pL vc0.cx cO dr 11 104 _ _=_;unfold pL;have e1:decide ((i:Int)=(n1:Int))=true:=decide_eq_true (by omega);simp only[e1,hsl,show Nat.blt 0 1=true from rfl];exact q1
  .rw[List.take_of_length_le (by rw[hO.s1n];omega),List.drop_eq_nil_of_le (by rw[hO.s1n];omega),List.flatMap_append];simpa using q5
 .have h1:=hO.s1.own;have hlow:=PW hO;have hone:(ss.flatMap encS).all one1=true:=rn uo ss;have hfm:(ss.take i++v::ss.drop i).flatMap encS=(ss.flatMap encS).take (i*11)++encS v++(ss.flatMap encS).drop (i*11):=by
   have e:ss.flatMap encS=(ss.take i).flatMap encS++(ss.drop i).flatMap encS:=by rw[<-List.flatMap_append,List.take_append_drop]
   have hl:((ss.take i).flatMap encS).length=i*11:=by rw[dk fE,List.length_take,hO.s1n];congr 1;omega
   rw[e,List.flatMap_append,List.flatMap_cons,<-hl,List.take_left,List.drop_left,List.append_assoc]
  rw[hfm]at h;have hlowv:(encS v).all (qv m.nx)=true:=by
   obtain⟨e1,e2,e3⟩:=hv0;unfold encS;rw[e1,e2,e3];rfl
  generalize ss.flatMap encS=L at *;cases h1 with
  | nil=>omega
  | empty b cc h2 h3=>omega
  | row b n l h0 h2 h3=>
   have hbne:Nat.beq bv b=false:=Tr.beq_false.2 (hbv b (by simp[blk]));obtain⟨tr,hg,hc⟩:=id h3;have hrow:fi m ⟨b,0,none⟩ (n1*11)=some L:=by
    have:=h3.rowAll;rw[hLlen]at this;exact this
   obtain⟨tv,hgv,_⟩:=id hR;have hcell:gM m bv=true:=by unfold gM;rw[hgv]
   have hok:wd m dr dr 11 b 0 n1 n1 i 1 bv L.length 104 L (encS v)=true:=by
    unfold wd;rw[hcell,hlow,hlowv,hone,uo v,hbne,Nat.ble_eq_true_of_le (show m.fl<=b by omega)];have b1:Nat.beq (0+n1*11) L.length=true:=by rw[hLlen,Nat.zero_add];exact Nat.beq_refl _
    have b2:Nat.blt i n1=true:=Nat.ble_eq_true_of_le (by omega);have b3:Nat.ble n1 n1=true:=Nat.ble_eq_true_of_le (Nat.le_refl _);have b4:Nat.beq (encS v).length (1*11)=true:=rfl;have b5:Nat.beq L.length (n1*11)=true:=by rw[hLlen];exact Nat.beq_refl _
    have b6:Nat.ble (n1+1) 1000000=true:=Nat.ble_eq_true_of_le (by omega);rw[b1,b2,b3,b4,b5,b6,show Nat.beq dr dr=true from Nat.beq_refl _];rfl
   refine ah.ov dh HQ (r:=.slice (some ⟨m.nx,0,none⟩) (n1+1) (n1+1)) (u':=(fY { m with hp:=m.hp.del b } (L.take (i*11)++encS v++L.drop (i*11)) dr true).2) ?_ (h _ ?_ ?_ rfl ?_)
   .show pL vc0.cx cO dr 11 104 _ _=_;unfold pL;have e1:decide ((i:Int)=(n1:Int))=false:=decide_eq_false (by omega);have e2:decide (0<=(i:Int))=true:=decide_eq_true (by omega);simp only[e1,e2];unfold xK;rw[Int.toNat_natCast];simp only[hg,hrow,hx,hok]
   .have hd:=Fq hw b;exact(ia hd.wf _ _ _).wf
   .refine⟨Nat.le_succ _,rfl,fun b' hb' hn'=>?_⟩;show ((m.hp.del b).put m.nx _).get b'=_;rw[Tr.get_put,if_neg (by omega),Tr.get_del,if_neg (by simpa [blk]using hn')]
   .exact Row.of_row (by
     show ((m.hp.del b).put m.nx _).get m.nx=_;rw[Tr.get_put,if_pos rfl];rfl)
theorem MH{α β : Type}{R:α->β->Prop}{l:List α}{k:List β}{a:α}{b:β}(h:All2 R l k)(i:Nat)(hab:R a b):All2 R (l.take i++a::l.drop i) (k.take i++b::k.drop i):=
 (h.take i).append (.cons hab (h.drop i))
theorem A9{id q p:Int}(hw:Wf m)(hσ : RdSt cx m M now a1 n1 a2 n2 a3 n3 c3 σ)(hI:pm.Iv B σ)
  (h:∀m' b1 n1' d1 b2 d2 b3 d3,Keep m m'->RdSt cx m' M now b1 n1' b2 n2 b3 n3 d3 (pm.add σ id q p).1->Q (.tuple #[.agg #[.int .i64 M,.int .i64 now,.slice b1 n1' d1,.slice b2 n2 d2,.slice b3 n3 d3],.int .i64 (pm.add σ id q p).2]) m') :
  ah cx uT [.agg #[.int .i64 M,.int .i64 now,.slice a1 n1 c1,.slice a2 n2 c2,.slice a3 n3 c3],.int .i64 id,.int .i64 q,.int .i64 p] m Q:=by
 apply CS;unfold zR;have k0:Keep m (bump m 2):=(Keep.refl hw).bump;have hz:=hI.len1;have hl1:=hσ.len1;refine zf k0.wf (hσ.keep hw k0) hI.rise (by omega) fun m1 k1=>⟨_,_,rfl,?_⟩
 have k01:=k0.trans k1;have same:∀m' e,Keep m m'->pm.add σ id q p=(σ,e)->Q (.tuple #[.agg #[.int .i64 M,.int .i64 now,.slice a1 n1 c1,.slice a2 n2 c2,.slice a3 n3 c3],.int .i64 e]) m':=fun m' e k he=>by
  rw[he]at h;exact h m' a1 n1 c1 a2 c2 a3 c3 k (hσ.keep hw k)
 refine dR (fun f:Bool->Mem->Prop=>∀b,b=(cR id 1 || cR 255 id)->f b m1) ?_ ?_
 .rintro b rfl;refine cJ (fun h1=>same _ _ k01 (by unfold pm.add;rw[h1];rfl)) (fun h1=>?_);refine cJ (fun h2=>same _ _ k01 (by unfold pm.add;rw[h1,h2];rfl)) (fun h2=>?_);have e3:leI 32 (aQ n1)=leI 32 (aQ σ.servs.length):=by rw[hl1]
  rw[e3];refine cJ (fun h3=>same _ _ k01 (by unfold pm.add;rw[h1,h2,h3];rfl)) (fun h3=>?_);refine Om k01.wf fun m2 k2=>⟨_,_,_,_,_,_,rfl,?_⟩
  have k02:=k01.trans k2;refine cJ (fun h4=>same _ _ k02.bump (by unfold pm.add;rw[h1,h2,h3,h4];rfl)) (fun h4=>?_);obtain⟨_,_,ecn⟩:=pm.Dl (fH.1 h4);have eadd:pm.add σ id q p=({ σ with servs:=σ.servs.take (pm.at_ σ.servs id)++⟨id,(pm.gg q p).1,[],0,0,0,0⟩::σ.servs.drop (pm.at_ σ.servs id) },0):=by
   unfold pm.add;rw[h1,h2,h3,h4];rfl
  rw[eadd]at h;have k03:Keep m (bump m2 1):=k02.bump;refine tF k03.wf (hσ.keep hw k03) (qF hI.toIw) fun m4 lam b1 d1 b2 d2 b3 d3 ss js ls qs hO=>⟨_,_,_,_,_,_,_,_,_,_,_,rfl,?_⟩
  have hO:=hO.old0 hw k03;rw[cP];have k5:Keep m4 (newO m4 (row [.int .i64 id,.int .i64 (pm.gg q p).1.q,.int .i64 (pm.gg q p).1.p,.int .i64 (pm.gg q p).1.bud,.int .i64 (pm.gg q p).1.due,.int .i64 (pm.gg q p).1.mode,.slice none 0 0,.int .i64 0,.int .i64 0,.int .i64 0,.int .i64 0] dr false)):=(Keep.refl hO.keep.wf).newO;have hR:Row (newO m4 (row [.int .i64 id,.int .i64 (pm.gg q p).1.q,.int .i64 (pm.gg q p).1.p,.int .i64 (pm.gg q p).1.bud,.int .i64 (pm.gg q p).1.due,.int .i64 (pm.gg q p).1.mode,.slice none 0 0,.int .i64 0,.int .i64 0,.int .i64 0,.int .i64 0] dr false)) m4.nx (encS ⟨id,(pm.gg q p).1,none,0,0,0,0,0,0⟩) dr false:=Row.newO;generalize newO m4 (row [.int .i64 id,.int .i64 (pm.gg q p).1.q,.int .i64 (pm.gg q p).1.p,.int .i64 (pm.gg q p).1.bud,.int .i64 (pm.gg q p).1.due,.int .i64 (pm.gg q p).1.mode,.slice none 0 0,.int .i64 0,.int .i64 0,.int .i64 0,.int .i64 0] dr false)=m5 at k5 hR;have hO5:=hO.then k5;have hblt:=hO.s1.lt hO.keep.wf;have hale:=IA σ.servs id;refine Ol hO5 (i:=pm.at_ σ.servs id) (by omega) hR (fun b hb e=>by have:=(hblt b hb).2;omega) ⟨rfl,rfl,rfl⟩ (by omega) fun m6 hw6 f6 hx6 hR6=>⟨_,_,_,rfl,?_⟩
  obtain⟨r1,r2,r3,r4⟩:=hO5.apartS (cx:=cx) f6 (fun b hb=>hO.s1l b hb) iE;have kk:Keep m m6:=Keep.of_fr hO5.keep hw6 f6 (fun b hb=>(hblt b hb).1);have hnew:RdServ m6 (⟨id,(pm.gg q p).1,none,0,0,0,0,0,0⟩:SV) (⟨id,(pm.gg q p).1,[],0,0,0,0⟩:pm.Serv):=⟨rfl,rfl,rfl,rfl,rfl,rfl,[],jA.nil,.nil⟩;refine h m6 _ _ _ _ _ _ _ kk ⟨hσ.em,hσ.enow,⟨_,?_,MH r1 _ hnew⟩,r2,r3,r4⟩;have:=Arr.of_row fE hR6;have e:(ss.take (pm.at_ σ.servs id)++(⟨id,(pm.gg q p).1,none,0,0,0,0,0,0⟩:SV)::ss.drop (pm.at_ σ.servs id)).length=n1+1:=by
   rw[List.length_append,List.length_cons,List.length_take,List.length_drop,hO.s1n];omega
  rw[e]at this;exact this
 .intro J hJ;refine cJ (fun h1=>hJ _ (by rw[h1];rfl)) (fun h1=>hJ _ (by rw[h1];rfl))
theorem On{i:Nat}(hO:Ow TT (fun _=>.own true) (fun _=>.own true) m0 m lam a1 n1 c1 a2 n2 c2 a3 n3 c3 ss js ls qs σ)(hi:i<n1)
  (h:∀m',Wf m'->Fr m m' (blk a1)->Arr encS 11 m' a1 (n1-1) (ss.eraseIdx i)->Q (.slice a1 (n1-1) c1) m') :
  ah cx ij [.slice a1 n1 c1,.int .i64 (i:Int),.int .i64 ((i+1:Nat):Int)] m Q:=by
 apply oM;unfold kI;have hw:=hO.keep.wf;have hfl0:m.fl<=m0.nx:=by have:=hO.keep.fl;have:=hO.fl0;omega
 have hLlen:(ss.flatMap encS).length=n1*11:=by rw[dk fE,hO.s1n]
 have hone:(ss.flatMap encS).all one1=true:=rn uo ss;have h1:=hO.s1.own;have hss:=hO.s1n;have hdel:(ss.eraseIdx i).flatMap encS=(ss.flatMap encS).take (i*11)++(ss.flatMap encS).drop ((i+1)*11):=by
  have e:ss.flatMap encS=(ss.take i).flatMap encS++(ss.drop i).flatMap encS:=by rw[<-List.flatMap_append,List.take_append_drop]
  have e':ss.flatMap encS=(ss.take (i+1)).flatMap encS++(ss.drop (i+1)).flatMap encS:=by rw[<-List.flatMap_append,List.take_append_drop]
  have hl:((ss.take i).flatMap encS).length=i*11:=by rw[dk fE,List.length_take,hss];congr 1;omega
  have hl':((ss.take (i+1)).flatMap encS).length=(i+1)*11:=by rw[dk fE,List.length_take,hss];congr 1;omega
  have t1:(ss.flatMap encS).take (i*11)=(ss.take i).flatMap encS:=by rw[e,<-hl,List.take_left]
  have t2:(ss.flatMap encS).drop ((i+1)*11)=(ss.drop (i+1)).flatMap encS:=by rw[e',<-hl',List.drop_left]
  rw[t1,t2,List.eraseIdx_eq_take_drop_succ,List.flatMap_append]
 generalize hLL:ss.flatMap encS=L at h1;rw[hLL]at hLlen hone hdel;cases h1 with
 | nil=>omega
 | empty b cc h2 h3=>omega
 | row b n l h0 h2 h3=>
  obtain⟨⟨x1,x2,x3,d1⟩,d2,d3,m1,d4,d5,m2,Z,d6,d7,d8,d9,d10⟩:=FW (cx:=cx) (t:=cO) (e:=dr) (s:=11) (i:=i) (by kernel_rfl) (by kernel_rfl) hw h3 hLlen hi (by omega) hone;refine⟨x1,x2,x3,d1,?_⟩;refine fy (fun e=>by omega) (fun _=>?_);refine⟨_,_,_,d2,_,_,_,d3,_,_,_,m1,d4,_,_,_,d5,m2,d6,?_⟩;have hn:i+(n1-(i+1))=n1-1:=by omega
  rw[hn];refine h m2 ⟨by have:=hw.1;omega,fun b' hb'=>?_⟩ ⟨by omega,d10,fun b' hb' hn'=>d8 b' (by simpa [blk]using hn')⟩ ?_
  .have hbn:b≠b':=fun e=>by have:=hw.row h3;omega
   rw[d8 b' (fun e=>hbn e.symm)];exact hw.2 b' (by omega)
  .refine⟨by rw[List.length_eraseIdx,if_pos (by omega)];omega,fun j x hx=>⟨b,0,rfl,fun k v hv=>?_⟩⟩;have hk:k<11:=by rw[<-fE x];exact(List.getElem?_eq_some_iff.1 hv).1
   have hj:j<n1-1:=by
    have:=(List.getElem?_eq_some_iff.1 hx).1;rw[List.length_eraseIdx,if_pos (by omega)]at this;omega
   rw[<-hdel]at d7;rw[d7.rd,List.getElem?_append_left (by rw[dk fE,List.length_eraseIdx,if_pos (by omega)];omega),Nat.zero_add,flat_get fE hx hk,hv]
theorem Oo{id:Int}(hw:Wf m)(hσ : RdSt cx m M now a1 n1 a2 n2 a3 n3 c3 σ)(hI:pm.Iv B σ)
  (h:∀m' b1 n1' d1 b2 d2 b3 d3,Keep m m'->RdSt cx m' M now b1 n1' b2 n2 b3 n3 d3 (pm.drop σ id).1->Q (.tuple #[.agg #[.int .i64 M,.int .i64 now,.slice b1 n1' d1,.slice b2 n2 d2,.slice b3 n3 d3],.int .i64 (pm.drop σ id).2]) m') :
  ah cx tG [.agg #[.int .i64 M,.int .i64 now,.slice a1 n1 c1,.slice a2 n2 c2,.slice a3 n3 c3],.int .i64 id] m Q:=by
 apply BW;unfold yz;have k0:Keep m (bump m 2):=(Keep.refl hw).bump;have hz:=hI.len1;have hl1:=hσ.len1;refine zf k0.wf (hσ.keep hw k0) hI.rise (by omega) fun m1 k1=>⟨_,_,rfl,?_⟩
 have k01:=k0.trans k1;have same:∀m' e,Keep m m'->pm.drop σ id=(σ,e)->Q (.tuple #[.agg #[.int .i64 M,.int .i64 now,.slice a1 n1 c1,.slice a2 n2 c2,.slice a3 n3 c3],.int .i64 e]) m':=fun m' e k he=>by
  rw[he]at h;exact h m' a1 n1 c1 a2 c2 a3 c3 k (hσ.keep hw k)
 refine dM (fun h1=>same _ _ k01 (by unfold pm.drop;rw[h1];rfl)) (fun h1=>?_);obtain⟨x,hx,hxid⟩:=pm.Bq hI.rise h1;have hil:=(List.getElem?_eq_some_iff.1 hx).1;obtain⟨ss0,hA0,hS0⟩:=(hσ.keep hw k01).servs;obtain⟨v0,hv0,hR0⟩:=hS0.get' hx;refine hA0.open (k:=pm.at_ σ.servs id) hv0 fun b o hc=>?_
 refine⟨_,hc 0 _ rfl,_,hc 1 _ rfl,_,hc 2 _ rfl,_,hc 3 _ rfl,_,hc 4 _ rfl,_,hc 5 _ rfl,_,_,_,hc 6 _ rfl,_,hc 7 _ rfl,_,hc 8 _ rfl,_,hc 9 _ rfl,_,hc 10 _ rfl,?_⟩;refine CU k01.wf fun m2 k2=>⟨_,rfl,?_⟩
 have k02:=k01.trans k2;have eid:cU v0.s.mode 0=x.idle:=by unfold pm.Serv.idle;rw[hR0.s]
 rw[eid];refine dM (fun h2=>same _ _ k02 (by unfold pm.drop;rw[h1,hx];simp only[h2];rfl)) (fun h2=>?_);have edrop:pm.drop σ id=({ σ with servs:=σ.servs.eraseIdx (pm.at_ σ.servs id) },0):=by
  unfold pm.drop;rw[h1,hx];simp only[h2];rfl
 rw[edrop]at h;refine tF k02.wf (hσ.keep hw k02) (qF hI.toIw) fun m4 lam b1 d1 b2 d2 b3 d3 ss js ls qs hO=>⟨_,_,_,_,_,_,_,_,_,_,_,rfl,?_⟩
 have hO:=hO.old0 hw k02;have ei:bh .i64 ((pm.at_ σ.servs id:Nat):Int) 1=((pm.at_ σ.servs id+1:Nat):Int):=by rw[dG (by omega) (by omega)];omega
 rw[ei];have hblt:=hO.s1.lt hO.keep.wf;refine On hO (by omega) fun m6 hw6 f6 hA6=>⟨_,_,_,rfl,?_⟩
 obtain⟨r1,r2,r3,r4⟩:=hO.apartS (cx:=cx) f6 (fun b hb=>hO.s1l b hb) iE;have kk:Keep m m6:=Keep.of_fr hO.keep hw6 f6 (fun b hb=>(hblt b hb).1);refine h m6 _ _ _ _ _ _ _ kk ⟨hσ.em,hσ.enow,⟨_,hA6,?_⟩,r2,r3,r4⟩;show All2 _ (ss.eraseIdx _) (σ.servs.eraseIdx _);rw[List.eraseIdx_eq_take_drop_succ,List.eraseIdx_eq_take_drop_succ];exact(r1.take _).append (r1.drop _)
end
end Go.Proofs.YthpnifigjfplbaaGreat.vc
namespace Go.Proofs.YthpnifigjfplbaaGreat.vc
open Go Go.AX
section
variable {B:Int} {m0 m:Mem} {lam:Nat->Lb} {wj wq:Nat->Kd} {Q:Value->Mem->Prop} {M now:Int} {a1 a2 a3 ae:Option Addr} {n1 c1 n2 c2 n3 c3 ne ce:Nat} {ss:List SV} {js:Nat->List JV} {ls:List LV} {qs:Nat->List Int} {σ : pm.St} {E:List pm.Ev}
theorem Oq{i:Nat}(hO:Ow TT (fun _=>.own true) (fun _=>.own true) m0 m lam a1 n1 c1 a2 n2 c2 a3 n3 c3 ss js ls qs σ)(hi:i<n3)
  (h:∀m',Wf m'->Fr m m' (blk a3)->Arr encB 2 m' a3 (n3-1) (σ.backs.eraseIdx i)->Cut cx m' a3 (n3-1) c3 2->Q (.slice a3 (n3-1) c3) m') :
  ah cx ik [.slice a3 n3 c3,.int .i64 (i:Int),.int .i64 ((i+1:Nat):Int)] m Q:=by
 apply oN;unfold kJ;have hw:=hO.keep.wf;have hfl0:m.fl<=m0.nx:=by have:=hO.keep.fl;have:=hO.fl0;omega
 have hLlen:(σ.backs.flatMap encB).length=n3*2:=by rw[dk fD,hO.s3n]
 have hone:(σ.backs.flatMap encB).all one1=true:=rn yi σ.backs;have h1:=hO.s3.own;have hss:=hO.s3n;generalize σ.backs=ss at *;have hdel:(ss.eraseIdx i).flatMap encB=(ss.flatMap encB).take (i*2)++(ss.flatMap encB).drop ((i+1)*2):=by
  have e:ss.flatMap encB=(ss.take i).flatMap encB++(ss.drop i).flatMap encB:=by rw[<-List.flatMap_append,List.take_append_drop]
  have e':ss.flatMap encB=(ss.take (i+1)).flatMap encB++(ss.drop (i+1)).flatMap encB:=by rw[<-List.flatMap_append,List.take_append_drop]
  have hl:((ss.take i).flatMap encB).length=i*2:=by rw[dk fD,List.length_take,hss];congr 1;omega
  have hl':((ss.take (i+1)).flatMap encB).length=(i+1)*2:=by rw[dk fD,List.length_take,hss];congr 1;omega
  have t1:(ss.flatMap encB).take (i*2)=(ss.take i).flatMap encB:=by rw[e,<-hl,List.take_left]
  have t2:(ss.flatMap encB).drop ((i+1)*2)=(ss.drop (i+1)).flatMap encB:=by rw[e',<-hl',List.drop_left]
  rw[t1,t2,List.eraseIdx_eq_take_drop_succ,List.flatMap_append]
 generalize hLL:ss.flatMap encB=L at h1;rw[hLL]at hLlen hone hdel;cases h1 with
 | nil=>omega
 | empty b cc h2 h3=>omega
 | row b n l h0 h2 h3=>
  obtain⟨⟨x1,x2,x3,d1⟩,d2,d3,m1,d4,d5,m2,Z,d6,d7,d8,d9,d10⟩:=FW (cx:=cx) (t:=cS) (e:=di) (s:=2) (i:=i) (by kernel_rfl) (by kernel_rfl) hw h3 hLlen hi (by omega) hone;refine⟨x1,x2,x3,d1,?_⟩;refine fy (fun e=>by omega) (fun _=>?_);refine⟨_,_,_,d2,_,_,_,d3,_,_,_,m1,d4,_,_,_,d5,m2,d6,?_⟩;have hn:i+(n3-(i+1))=n3-1:=by omega
  rw[hn];refine h m2 ⟨by have:=hw.1;omega,fun b' hb'=>?_⟩ ⟨by omega,d10,fun b' hb' hn'=>d8 b' (by simpa [blk]using hn')⟩ ?_ ⟨by omega,.inr ?_⟩
  .have hbn:b≠b':=fun e=>by have:=hw.row h3;omega
   rw[d8 b' (fun e=>hbn e.symm)];exact hw.2 b' (by omega)
  .refine⟨by rw[List.length_eraseIdx,if_pos (by omega)];omega,fun j x hx=>⟨b,0,rfl,fun k v hv=>?_⟩⟩;have hk:k<2:=by rw[<-fD x];exact(List.getElem?_eq_some_iff.1 hv).1
   have hj:j<n3-1:=by
    have:=(List.getElem?_eq_some_iff.1 hx).1;rw[List.length_eraseIdx,if_pos (by omega)]at this;omega
   rw[<-hdel]at d7;rw[d7.rd,List.getElem?_append_left (by rw[dk fD,List.length_eraseIdx,if_pos (by omega)];omega),Nat.zero_add,flat_get fD hx hk,hv]
  .obtain⟨tr,hg,_⟩:=id d7;exact⟨b,0,_,rfl,hg,d7.sameSize iE⟩
theorem KO{id:Int}{on:Bool}(hw:Wf m)(hσ : RdSt cx m M now a1 n1 a2 n2 a3 n3 c3 σ)(hI:pm.Iv B σ)
  (h:∀m' b1 d1 b2 d2 b3 n3' d3,Keep m m'->RdSt cx m' M now b1 n1 b2 n2 b3 n3' d3 (pm.gW σ id on).1->Q (.tuple #[.agg #[.int .i64 M,.int .i64 now,.slice b1 n1 d1,.slice b2 n2 d2,.slice b3 n3' d3],.int .i64 (pm.gW σ id on).2]) m') :
  ah cx qG [.agg #[.int .i64 M,.int .i64 now,.slice a1 n1 c1,.slice a2 n2 c2,.slice a3 n3 c3],.int .i64 id,.bool on] m Q:=by
 apply zj;unfold vH;have k0:Keep m (bump m 2):=(Keep.refl hw).bump;have hz3:=hI.len3;have hl3:=hσ.len3;refine Ot k0.wf (hσ.keep hw k0) (by omega) fun m1 k1=>⟨_,rfl,?_⟩
 have k01:=k0.trans k1;have same:∀e,pm.gW σ id on=(σ,e)->Q (.tuple #[.agg #[.int .i64 M,.int .i64 now,.slice a1 n1 c1,.slice a2 n2 c2,.slice a3 n3 c3],.int .i64 e]) m1:=fun e he=>by
  rw[he]at h;exact h m1 a1 c1 a2 c2 a3 n3 c3 k01 (hσ.keep hw k01)
 have hbk:∀i,pm.back σ.backs id=some i->i<n3:=fun i hi=>by
  unfold pm.back at hi;have:=(List.findIdx?_eq_some_iff_findIdx_eq.1 hi).1;omega
 refine dR (fun f:Bool->Mem->Prop=>∀b,b=(cR id 1 || cR 255 id)->f b m1) ?_ ?_
 .rintro b rfl;refine cJ (fun h1=>same _ (by unfold pm.gW;rw[h1];rfl)) (fun h1=>?_);refine dR (fun f:Bool->Mem->Prop=>∀b,b=(on&&(pm.back σ.backs id).isSome)->f b m1) ?_ ?_
  .rintro b rfl;refine cJ (fun h2=>?_) (fun h2=>?_)
   .simp only[Bool.and_eq_true]at h2;obtain⟨rfl,h2⟩:=h2;obtain⟨i,hi⟩:=Option.isSome_iff_exists.1 h2;exact same _ (by unfold pm.gW;rw[h1,hi];rfl)
   refine dR (fun f:Bool->Mem->Prop=>∀b,b=(on&&leI 16 (aQ n3))->f b m1) ?_ ?_
   .rintro b rfl;refine cJ (fun h3=>?_) (fun h3=>?_)
    .simp only[Bool.and_eq_true]at h3;obtain⟨rfl,h3⟩:=h3;rw[Bool.true_and]at h2;have hb:pm.back σ.backs id=none:=Option.not_isSome_iff_eq_none.1 (by rw[h2];simp);exact same _ (by unfold pm.gW;rw[h1,hb];simp only[hl3,h3];rfl)
    refine dR (fun f:Bool->Mem->Prop=>∀b,b=(!on&&!(pm.back σ.backs id).isSome)->f b m1) ?_ ?_
    .rintro b rfl;refine cJ (fun h4=>?_) (fun h4=>?_)
     .simp only[Bool.and_eq_true,Bool.not_eq_true']at h4;obtain⟨rfl,h4⟩:=h4;have hb:pm.back σ.backs id=none:=Option.not_isSome_iff_eq_none.1 (by rw[h4];simp);exact same _ (by unfold pm.gW;rw[h1,hb];rfl)
     refine tF k01.wf (hσ.keep hw k01) (qF hI.toIw) fun m4 lam b1 d1 b2 d2 b3 d3 ss js ls qs hO=>⟨_,_,_,_,_,_,_,_,_,_,_,rfl,?_⟩
     have hO:=hO.old0 hw k01;have hblt:=hO.s3.lt hO.keep.wf;cases on with
     | true=>
      rw[Bool.true_and]at h2 h3;have hb:pm.back σ.backs id=none:=Option.not_isSome_iff_eq_none.1 (by rw[h2];simp);have eg:pm.gW σ id true=({ σ with backs:=σ.backs++[⟨id,0⟩] },0):=by
       unfold pm.gW;rw[h1,hb];simp only[hl3,h3];rfl
      rw[eg]at h;rw[eF,cP];have k5:Keep m4 (newO m4 (row [.int .i64 id,.int .i64 0] di false)):=(Keep.refl hO.keep.wf).newO;have hR:Row (newO m4 (row [.int .i64 id,.int .i64 0] di false)) m4.nx [.int .i64 id,.int .i64 0] di false:=Row.newO;generalize newO m4 (row [.int .i64 id,.int .i64 0] di false)=m5 at k5 hR;have hO5:=hO.then k5;obtain⟨m6,q1,q2,q3,q4,q5⟩:=wh (cx:=cx) (t:=cS) (e:=di) (s:=2) (vs:=[.int .i64 id,.int .i64 0]) (by kernel_rfl) k5.wf (by have:=hO5.keep.fl;have:=hO5.fl0;omega) hO5.s3.own (by rw[dk fD,hO.s3n]) (hR.first1 rfl) rfl rfl (by omega);refine⟨_,_,_,m6,q1,?_⟩;obtain⟨r1,r2⟩:=hO5.apartB q3 (fun b hb=>hO.s3l b hb);have kk:Keep m m6:=Keep.of_fr hO5.keep q2 q3 (fun b hb=>(hblt b hb).1);have e1:σ.backs.flatMap encB++[.int .i64 id,.int .i64 0]=(σ.backs++[(⟨id,0⟩:pm.Back)]).flatMap encB:=by rw[List.flatMap_append];rfl
      rw[e1]at q5;have hA:=Arr.of_row fD q5;rw[List.length_append,hO.s3n]at hA;have q5':=q5;obtain⟨tr,hg,_⟩:=q5';exact h m6 _ _ _ _ _ _ _ kk ⟨hσ.em,hσ.enow,r1,r2,hA,⟨Nat.le_refl _,.inr ⟨_,_,_,rfl,hg,q5.sameSize iE⟩⟩⟩
     | false=>
      have hb:∃i,pm.back σ.backs id=some i:=by
       cases hb:pm.back σ.backs id with
       | none=>rw[hb]at h4;simp at h4
       | some i=>exact⟨i,rfl⟩
      obtain⟨i,hi⟩:=hb;have hin:=hbk i hi;have eg:pm.gW σ id false=({ σ with backs:=σ.backs.eraseIdx i },0):=by
       unfold pm.gW;rw[h1,hi];rfl
      rw[eg]at h;rw[gi,hi];have ei:bh .i64 ((i:Nat):Int) 1=((i+1:Nat):Int):=by rw[dG (by omega) (by omega)];omega
      simp only[ei];refine Oq hO hin fun m6 hw6 f6 hA6 hC6=>⟨_,_,_,rfl,?_⟩
      obtain⟨r1,r2⟩:=hO.apartB f6 (fun b hb=>hO.s3l b hb);have kk:Keep m m6:=Keep.of_fr hO.keep hw6 f6 (fun b hb=>(hblt b hb).1);exact h m6 _ _ _ _ _ _ _ kk ⟨hσ.em,hσ.enow,r1,r2,hA6,hC6⟩
    .intro J hJ;refine cJ (fun h4=>hJ _ ?_) (fun h4=>hJ _ (by have h4:(!on)=false:=h4;rw[h4];rfl));have h4:(!on)=true:=h4;rw[h4,Bool.true_and];cases hb:pm.back σ.backs id with
     | none=>simp[gE]
     | some i=>simp[dS]
   .intro J hJ;exact cJ (fun h4=>hJ _ (by rw[h4,Bool.true_and])) (fun h4=>hJ _ (by rw[h4];rfl))
  .intro J hJ;refine cJ (fun h4=>hJ _ ?_) (fun h4=>hJ _ (by rw[h4];rfl));rw[h4,Bool.true_and];cases hb:pm.back σ.backs id with
   | none=>simp[lw]
   | some i=>simp[gh]
 .intro J hJ;exact cJ (fun h1=>hJ _ (by rw[h1];rfl)) (fun h1=>hJ _ (by rw[h1];rfl))
theorem MI(hw:Wf m)(hσ : RdSt cx m M now a1 n1 a2 n2 a3 n3 c3 σ)(hn2:n2<=1000)
  (h:∀m' a c,Keep m m'->Q (.slice a n2 c) m') :
  ah cx mw [.agg #[.int .i64 M,.int .i64 now,.slice a1 n1 c1,.slice a2 n2 c2,.slice a3 n3 c3]] m Q:=by
 apply uU;unfold qj;have k0:Keep m (bump m 1):=(Keep.refl hw).bump;obtain⟨ls,hA,_⟩:=hσ.sems;refine oz (show n2<=4611686018427387904 by omega) (fun k a n c mm=>∃l,Acc m mm a n c 1 jt l/\n=k) ⟨[],Acc.nil k0 _ _,rfl⟩ ?_;rintro k a n c m1 hk ⟨l,hacc,rfl⟩ I w hI;refine dH (fun hlt=>?_) (fun hge=>?_)
 .obtain⟨v,hv⟩:∃v,ls[n]? = some v:=⟨_,List.getElem?_eq_getElem (by rw[hA.1];exact hlt)⟩;refine(hA.keep hw hacc.keep).open (k:=n) hv fun b o hc=>?_
  refine⟨_,hc 0 _ rfl,_,hc 1 _ rfl,_,_,_,hc 2 _ rfl,_,hc 3 _ rfl,?_⟩;rw[cP];obtain⟨m4,q1,q2,q3,q4,q5⟩:=(hacc.then ((Keep.refl hacc.keep.wf).bump (n:=1))).push (cx:=cx) (t:=ka) (vs:=[.int .i64 v.most]) (by kernel_rfl) rfl rfl (by omega);exact⟨_,_,_,m4,q1,hI _ _ _ m4 hlt ⟨_,q2,rfl⟩⟩
 .obtain rfl:n=n2:=by omega
  exact h m1 a c hacc.keep
theorem OwE.pushJ(h:OwE wj wq m0 m lam a1 n1 c1 a2 n2 c2 a3 n3 c3 ss js ls qs σ ae ne ce E){i b o:Nat}{u:SV}{y:pm.Serv}{jv:JV}{jx:pm.Job}{xa:Option Addr}(hu:ss[i]? = some u)(hy:σ.servs[i]? = some y)(hab:a1=some ⟨b,o,none⟩)(hκ : wj i = .own true)(hx:dA m 4 1 (.slice xa 1 1)=some (encJ jv))(hd:DpJob m lam jv jx)(hn:u.jn<=900000) :
  ∃m',cQ cx m [fP,fP] [.slice u.ja u.jn u.jc,.slice xa 1 1]=some (.slice (some ⟨m.nx,0,none⟩) (u.jn+1) (u.jn+1),m')/\okW m' b (o+Int.toNat (i:Int)*11+6) 1/\
   OwE wj wq m0 (wr m' b (o+Int.toNat (i:Int)*11+6) [.slice (some ⟨m.nx,0,none⟩) (u.jn+1) (u.jn+1)]) (ib lam m.nx (.jb i)) a1 n1 c1 a2 n2 c2 a3 n3 c3 (ss.set i { u with ja:=some ⟨m.nx,0,none⟩,jn:=u.jn+1,jc:=u.jn+1 }) (ib js i (js i++[jv])) ls qs { σ with servs:=σ.servs.set i { y with jobs:=y.jobs++[jx] } } ae ne ce E:=by
 have hw:=h.wf;have hH:=h.ow.jb i u hu;rw[hκ]at hH;obtain⟨p1,p2,p3⟩:=hH;obtain⟨m',q1,q2,q3,q4,q5⟩:=wh (cx:=cx) (t:=fP) (e:=fC) (s:=4) (vs:=encJ jv) (by kernel_rfl) hw (by have:=h.ow.keep.fl;have:=h.ow.fl0;omega) p1.own (by rw[dk fe,p3]) hx rfl rfl hn;have hR:Row m' m.nx ((js i++[jv]).flatMap encJ) fC true:=by rw[List.flatMap_append];simpa using q5
 obtain⟨g1,g2⟩:=h.ow.pushJ hu hy hab q2 q3 hκ (Nat.le_refl _) (by omega) hR hd;have hlb:lam b = .sv:=h.ow.s1l b (by rw[hab];simp[blk]);have f2:Fr m (wr m' b (o+Int.toNat (i:Int)*11+6) [.slice (some ⟨m.nx,0,none⟩) (u.jn+1) (u.jn+1)]) (b::blk u.ja):=(q3.mono (S':=b::blk u.ja) (fun b' hb'=>.inl (List.mem_cons_of_mem _ hb'))).wr (.inl (List.mem_cons_self ..));have hS:∀b'∈b::blk u.ja,lam b' = .sv∨lam b' = .jb i:=fun b' hb'=>by
  rcases List.mem_cons.1 hb' with e|hb'
  .subst e;exact .inl hlb
  .exact .inr (p2 b' hb')
 refine⟨m',q1,g1,⟨g2,h.ev.fr f2 hw (fun b' hb' hs=>?_),fun b' hb'=>⟨(h.evn b' hb').1,?_⟩⟩⟩
 .have:=(h.evn b' hb').2;rcases hS b' hs with e|e<;>rw[e]at this<;>cases this
 .rw[eR (fun e=>by have:=h.evlt b' hb';omega)];exact(h.evn b' hb').2
end
end Go.Proofs.YthpnifigjfplbaaGreat.vc
namespace Go.Proofs.YthpnifigjfplbaaGreat.vc
open Go Go.AX
section
variable {B:Int} {m0 m:Mem} {lam:Nat->Lb} {wj wq:Nat->Kd} {Q:Value->Mem->Prop} {M now:Int} {a1 a2 a3 ae:Option Addr} {n1 c1 n2 c2 n3 c3 ne ce:Nat} {ss:List SV} {js:Nat->List JV} {ls:List LV} {qs:Nat->List Int} {σ : pm.St} {E:List pm.Ev}
theorem Jb{id:Int}{ap:Option Addr}{np cp:Nat}{p:List pm.Step}(hw:Wf m)(hσ : RdSt cx m M now a1 n1 a2 n2 a3 n3 c3 σ)(hI:pm.Iv B σ)(hB:B<4611686018427387904)(hp:Arr encP 2 m ap np p)
  (h:∀m' b1 d1 b2 d2 b3 d3 ae ne ce,Keep m m'->RdSt cx m' M now b1 n1 b2 n2 b3 n3 d3 (pm.release σ id p).1->Arr encEv 4 m' ae ne (pm.release σ id p).2.1->ne<=2->Q (.tuple #[.agg #[.int .i64 M,.int .i64 now,.slice b1 n1 d1,.slice b2 n2 d2,.slice b3 n3 d3],.slice ae ne ce,.int .i64 (pm.release σ id p).2.2]) m') :
  ah cx pY [.agg #[.int .i64 M,.int .i64 now,.slice a1 n1 c1,.slice a2 n2 c2,.slice a3 n3 c3],.int .i64 id,.slice ap np cp] m Q:=by
 apply yI;unfold uE;have k0:Keep m (bump m 2):=(Keep.refl hw).bump;have hz:=hI.len1;have hz2:=hI.len2;have hl1:=hσ.len1;have hl2:=hσ.len2;have en:=hσ.enow;refine zf k0.wf (hσ.keep hw k0) hI.rise (by omega) fun m1 k1=>⟨_,_,rfl,?_⟩
 have k01:=k0.trans k1;have same:∀m' e,Keep m m'->pm.release σ id p=(σ,[],e)->Q (.tuple #[.agg #[.int .i64 M,.int .i64 now,.slice a1 n1 c1,.slice a2 n2 c2,.slice a3 n3 c3],.slice none 0 0,.int .i64 e]) m':=fun m' e k he=>by
  rw[he]at h;exact h m' a1 c1 a2 c2 a3 c3 none 0 0 k (hσ.keep hw k) jA.nil (by omega)
 refine dM (fun h1=>same _ _ k01 (by unfold pm.release;rw[h1];rfl)) (fun h1=>?_);obtain⟨x,hx,hxid⟩:=pm.Bq hI.rise h1;have hil:=(List.getElem?_eq_some_iff.1 hx).1;have hxm:=List.mem_of_getElem? hx;refine MI k01.wf (hσ.keep hw k01) (by omega) fun m2 am cm k2=>⟨_,_,_,rfl,?_⟩
 have k02:=k01.trans k2;refine M9 k02.wf (hp.keep hw k02) fun m3 k3=>⟨_,rfl,?_⟩
 have k03:=k02.trans k3;have e2:pm.pR p n2=pm.pR p σ.sems.length:=by rw[hl2]
 rw[e2];refine dM (fun h2=>same _ _ k03 (by unfold pm.release;rw[h1,h2];rfl)) (fun h2=>?_);obtain⟨ss0,hA0,hS0⟩:=(hσ.keep hw k03).servs;obtain⟨v0,hv0,hR0⟩:=hS0.get' hx;obtain⟨jl0,hj0,hj0'⟩:=hR0.jobs;have hjl:v0.jn=x.jobs.length:=by rw[<-hj0'.len,hj0.1]
 refine hA0.open (k:=pm.at_ σ.servs id) hv0 fun b0 o0 hc0=>⟨_,_,_,hc0 6 _ rfl,?_⟩
 have e3:leI 8 (aQ v0.jn)=leI 8 (aQ x.jobs.length):=by rw[hjl]
 rw[e3];refine cJ (fun h3=>same _ _ k03 (by unfold pm.release;rw[h1,h2,hx];simp only[h3];rfl)) (fun h3=>?_);have h3':=lw.1 h3;simp only[pm.fN]at h3';obtain⟨hn1,hn2⟩:=hI.num x hxm;obtain⟨hpg,_⟩:=pm.Dn.1 h2;have enum:bh .i64 x.num 1=x.num+1:=dG (by omega) (by omega);obtain⟨j1,j2⟩:=pm.Do (n:=x.num+1) h2 (by omega);refine tF k03.wf (hσ.keep hw k03) (qF hI.toIw) fun m4 lam b1 d1 b2 d2 b3 d3 ss js ls qs hO=>⟨_,_,_,_,_,_,_,_,_,_,_,rfl,?_⟩
 have hE:=OwE.start (hO.old0 hw k03);obtain⟨v,hv⟩:∃v,ss[pm.at_ σ.servs id]? = some v:=⟨_,List.getElem?_eq_getElem (by rw[hE.ow.s1n];omega)⟩;generalize hi:pm.at_ σ.servs id=i at *
 have kb:Keep m4 (bump m4 1):=(Keep.refl hE.wf).bump;have hE0:=hE.then kb;obtain⟨b,o,rfl,hlb,hc⟩:=hE0.ow.atS hv;obtain⟨d0,dj⟩:=hE0.ow.ds i v x hv hx;refine⟨⟨by omega,by omega⟩,?_⟩;rw[cX];refine⟨_,hc 9 _ rfl,?_⟩;obtain⟨g1,hE1⟩:=hE0.setS (x':={ x with num:=x.num+1 }) (v':={ v with num:=x.num+1 }) (k:=9) (vs:=[.int .i64 (x.num+1)]) hv hx rfl (by simp) rfl ⟨rfl,rfl,rfl⟩ rfl ⟨d0.id,d0.s,d0.sec,d0.held,rfl,d0.ran⟩;have evn:bh .i64 v.num 1=x.num+1:=by rw[d0.num,enum]
 rw[evn];refine⟨g1,?_⟩;rw[cP];generalize wr (bump m4 1) b (o+Int.toNat (i:Int)*11+9) [.int .i64 (x.num+1)]=m5 at hE1;have hv1:=dZ (y:={ v with num:=x.num+1 }) hv;have hx1:=dZ (y:={ x with num:=x.num+1 }) hx;obtain⟨b',o',e,_,hc1⟩:=hE1.ow.atS hv1;cases e;refine⟨_,hc1 9 _ rfl,?_⟩;refine OM hE1.wf (hp.keep hw hE1.ow.keep) hpg fun m6 aj cj k6 hAj hnj=>?_
 rw[j1]at hAj ⊢;simp only[cond_true];have hAj:Arr encP 2 m6 aj np p:=by
  rcases hAj with h|h
  .exact h
  .cases h
 refine⟨_,_,_,_,_,_,_,rfl,?_⟩;have hE2:=hE1.then k6;obtain⟨lam3,hE3,hlp,hch⟩:=hE2.hold tj (by omega) hAj (fun b hb=>.inl (hE1.ow.noNew (hnj b hb))) (fun b hb hs=>by cases hs);have hlb3:lam3 b = .sv:=by rw[(hch b).2 (by rw[hlb];simp)];exact hlb
 obtain⟨b',o',e,_,hc3⟩:=(hE3.then ((Keep.refl hE3.wf).bump (n:=12))).ow.atS hv1;cases e;refine⟨_,_,_,hc3 6 _ rfl,?_⟩;have x61:(bump m6 1).nx=m6.nx+1:=rfl;have kP:Keep m6 (addO (bump m6 12) ((bump m6 1).nx+6) (row [.int .i64 (x.num+1),.slice aj np cj,.int .i64 0,.int .i64 0] fC false)):=((Keep.refl hE3.wf).bump (n:=12)).addO (by omega) (by show (bump m6 1).nx+6<m6.nx+12;omega);have hRj:Row (addO (bump m6 12) ((bump m6 1).nx+6) (row [.int .i64 (x.num+1),.slice aj np cj,.int .i64 0,.int .i64 0] fC false)) ((bump m6 1).nx+6) (encJ ⟨x.num+1,aj,np,cj,0,0⟩) fC false:=Row.of_row (by rw[gG,if_pos rfl];rfl);generalize addO (bump m6 12) ((bump m6 1).nx+6) (row [.int .i64 (x.num+1),.slice aj np cj,.int .i64 0,.int .i64 0] fC false)=m7 at kP hRj;have hE4:=hE3.then kP;have hd:DpJob m7 lam3 ⟨x.num+1,aj,np,cj,0,0⟩ ⟨x.num+1,p,0,0⟩:=⟨rfl,rfl,rfl,hAj.keep hE3.wf kP,hlp⟩;have hjv:v.jn<=900000:=by
  have h1:=(hE0.ow.jb i v hv).arr fe;have h2:=dj.len;have h3:v.jn=x.jobs.length:=by rw[<-h2,h1.1]
  omega
 obtain⟨m8,r1,r2,hE5⟩:=hE4.pushJ (jx:=⟨x.num+1,p,0,0⟩) (xa:=some ⟨(bump m6 1).nx+6,0,none⟩) hv1 hx1 rfl rfl (hRj.first1 rfl) hd hjv;refine⟨_,_,_,m8,r1,r2,?_⟩;rw[cP,cP];have hno7:lam3 m7.nx = .no:=hE4.ow.noNew (Nat.le_refl _);have hlb5:ib lam3 m7.nx (.jb i) b = .sv:=by rw[eR (fun e=>by rw[e,hno7]at hlb3;cases hlb3)];exact hlb3
 have hst:({ ({ σ with servs:=σ.servs.set i { x with num:=x.num+1 } }:pm.St)with servs:=(({ σ with servs:=σ.servs.set i { x with num:=x.num+1 } }:pm.St).servs).set i { ({ x with num:=x.num+1 }:pm.Serv)with jobs:=({ x with num:=x.num+1 }:pm.Serv).jobs++[⟨x.num+1,p,0,0⟩] } }:pm.St) = { σ with servs:=σ.servs.set i { x with num:=x.num+1,jobs:=x.jobs++[⟨x.num+1,p,0,0⟩] } }:=by
  simp[List.set_set]
 have hE5:=hE5.cast hst rfl;generalize wr m8 b (o+Int.toNat (i:Int)*11+6) [.slice (some ⟨m7.nx,0,none⟩) (v.jn+1) (v.jn+1)]=m9 at hE5;generalize ib lam3 m7.nx (.jb i)=lam5 at *;have hv5:=dZ (y:={ v with num:=x.num+1,ja:=some ⟨m7.nx,0,none⟩,jn:=v.jn+1,jc:=v.jn+1 }) hv1;have hx5:=dZ (y:={ x with num:=x.num+1,jobs:=x.jobs++[⟨x.num+1,p,0,0⟩] }) hx;have k9:Keep m9 (bump m9 9):=(Keep.refl hE5.wf).bump;obtain⟨b',o',e,_,hc5⟩:=(hE5.then k9).ow.atS hv5;cases e;refine⟨_,hc5 9 _ rfl,?_⟩;refine tS k9.wf fun m10 k10=>⟨_,_,_,_,rfl,?_⟩
 rw[cP];have x9:(bump m9 9).nx=m9.nx+9:=rfl;have x10:=k10.nx;have k11:Keep m9 (addO m10 (m9.nx+7) (row [.int .i64 now,.int .i64 1,.int .i64 id,.int .i64 (x.num+1)] t_model_Event false)):=(k9.trans k10).addO (by omega) (by omega);have hRe:Row (addO m10 (m9.nx+7) (row [.int .i64 now,.int .i64 1,.int .i64 id,.int .i64 (x.num+1)] t_model_Event false)) (m9.nx+7) (encEv ⟨now,1,id,x.num+1⟩) t_model_Event false:=Row.of_row (by rw[gG,if_pos rfl];rfl);generalize addO m10 (m9.nx+7) (row [.int .i64 now,.int .i64 1,.int .i64 id,.int .i64 (x.num+1)] t_model_Event false)=m11 at k11 hRe;have hE6:=hE5.then k11;have x11:=k11.nx;have hbl:b<m9.nx:=hE5.ow.lab b (by rw[hlb5];simp);have erel:pm.release σ id p=(bif !x.idle then ({ σ with servs:=σ.servs.set i { x with num:=x.num+1,jobs:=x.jobs++[⟨x.num+1,p,0,0⟩] } },[pm.dQ σ 1 id (x.num+1)],0) else
   bif dV (pm.gw x.s σ.now).2 0 then (σ,[],(pm.gw x.s σ.now).2) else
   ({ σ with servs:=σ.servs.set i { x with num:=x.num+1,jobs:=x.jobs++[⟨x.num+1,p,0,0⟩],s:=(pm.gw x.s σ.now).1 } },[pm.dQ σ 1 id (x.num+1),pm.dQ σ 9 id 0],0)):=by
  unfold pm.release;rw[h1,h2,hi,hx];simp only[h3,enum,j1];rfl
 refine dR (fun f:Option Addr->Nat->Nat->Mem->Prop=>∀a n c mm τ evs lam ss js ls qs,OwE (fun _=>.own true) (fun _=>.own true) m mm lam (some ⟨b,o,none⟩) n1 d1 b2 n2 d2 b3 n3 d3 ss js ls qs τ none 0 0 []->Arr encEv 4 mm a n evs->n<=2->pm.release σ id p=(τ,evs,0)->τ.m = σ.m->τ.now = σ.now->f a n c mm) ?_ ?_
 .intro a n c mm τ evs lam' ss' js' ls' qs' hE' hA' hn' he em' en';rw[he]at h;exact h mm _ _ _ _ _ _ a n c hE'.ow.keep (hE'.ow.reads (by rw[em'];exact hσ.em) (by rw[en'];exact en) iE) hA' hn'
 .intro J hJ;obtain⟨b',o',e,_,hc6⟩:=hE6.ow.atS hv5;cases e;refine⟨_,hc6 0 _ rfl,_,hc6 1 _ rfl,_,hc6 2 _ rfl,_,hc6 3 _ rfl,_,hc6 4 _ rfl,_,hc6 5 _ rfl,_,_,_,hc6 6 _ rfl,_,hc6 7 _ rfl,_,hc6 8 _ rfl,_,hc6 9 _ rfl,_,hc6 10 _ rfl,?_⟩;refine CU hE6.wf fun m13 k13=>⟨_,rfl,?_⟩
  have evs:v.s=x.s:=d0.s;have eid:cU v.s.mode 0=x.idle:=by unfold pm.Serv.idle;rw[evs]
  rw[eid];have hE7:=hE6.then k13;have hRe7:=k13.row hE6.wf hRe;have hAe:∀mm,Row mm (m9.nx+7) (encEv ⟨now,1,id,x.num+1⟩) t_model_Event false->Arr encEv 4 mm (some ⟨m9.nx+7,0,none⟩) 1 [pm.dQ σ 1 id (x.num+1)]:=fun mm hR=>by
   have:=Arr.of_row fu (l:=[(⟨now,1,id,x.num+1⟩:pm.Ev)]) (m:=mm) (b:=m9.nx+7) (by simpa using hR);unfold pm.dQ;rw[<-en];exact this
  refine cJ (fun h4=>?_) (fun h4=>?_)
  .rw[h4]at erel;simp only[Bool.not_true,cond_false]at erel;have k3':Keep m13 (bump m13 13):=(Keep.refl hE7.wf).bump;obtain⟨b',o',e,_,hc7⟩:=(hE7.then k3').ow.atS hv5;cases e;refine⟨_,hc7 1 _ rfl,_,hc7 2 _ rfl,_,hc7 3 _ rfl,_,hc7 4 _ rfl,_,hc7 5 _ rfl,?_⟩;refine MM k3'.wf fun m14 k14=>⟨_,_,_,_,_,_,rfl,?_⟩
   have ev:(⟨v.s.q,v.s.p,v.s.bud,v.s.due,v.s.mode⟩:pm.Srv)=x.s:=d0.s;rw[ev];rw[show pm.gw x.s σ.now=pm.gw x.s now by rw[en]]at erel;generalize hW:pm.gw x.s now=W at *;have x14:=k14.nx;have x13:(bump m13 13).nx=m13.nx+13:=rfl;have kA:Keep m13 (addO m14 (m13.nx+10) (row [.int .i64 (0:Int),.int .i64 (0:Int),.int .i64 (0:Int),.int .i64 (0:Int),.int .i64 (0:Int)] eW false)):=(k3'.trans k14).addO (by omega) (by omega);have hR:Row (addO m14 (m13.nx+10) (row [.int .i64 (0:Int),.int .i64 (0:Int),.int .i64 (0:Int),.int .i64 (0:Int),.int .i64 (0:Int)] eW false)) (m13.nx+10) [.int .i64 (0:Int),.int .i64 (0:Int),.int .i64 (0:Int),.int .i64 (0:Int),.int .i64 (0:Int)] eW false:=Row.of_row (by rw[gG,if_pos rfl]);generalize addO m14 (m13.nx+10) (row [.int .i64 (0:Int),.int .i64 (0:Int),.int .i64 (0:Int),.int .i64 (0:Int),.int .i64 (0:Int)] eW false)=m15 at kA hR;refine⟨hR.okW (by have:=kA.fl;have:=hE7.wf.1;omega) (by simp),?_⟩;rw[cP,cP];have hR2:=hR.wr (o:=0) (vs:=[.int .i64 W.1.q,.int .i64 W.1.p,.int .i64 W.1.bud,.int .i64 W.1.due,.int .i64 W.1.mode]) (by simp);change Row _ _ [.int .i64 W.1.q,.int .i64 W.1.p,.int .i64 W.1.bud,.int .i64 W.1.due,.int .i64 W.1.mode] _ _ at hR2;have kB:Keep m13 (wr m15 (m13.nx+10) 0 [.int .i64 W.1.q,.int .i64 W.1.p,.int .i64 W.1.bud,.int .i64 W.1.due,.int .i64 W.1.mode]):=kA.wr (by omega);generalize wr m15 (m13.nx+10) 0 [.int .i64 W.1.q,.int .i64 W.1.p,.int .i64 W.1.bud,.int .i64 W.1.due,.int .i64 W.1.mode]=m16 at kB hR2;have hE8:=hE7.then kB;refine cJ (fun h5=>?_) (fun h5=>?_)
   .rw[h5,cond_true]at erel;exact same m16 _ hE8.ow.keep erel
   .rw[h5,cond_false]at erel;refine⟨_,by rw[hR2.rd];rfl,_,by rw[hR2.rd];rfl,_,by rw[hR2.rd];rfl,_,by rw[hR2.rd];rfl,_,by rw[hR2.rd];rfl,?_⟩;obtain⟨d5,dj5⟩:=hE8.ow.ds i _ _ hv5 hx5;obtain⟨g9,hE9⟩:=hE8.setS (x':={ x with num:=x.num+1,jobs:=x.jobs++[⟨x.num+1,p,0,0⟩],s:=W.1 }) (v':={ v with num:=x.num+1,ja:=some ⟨m7.nx,0,none⟩,jn:=v.jn+1,jc:=v.jn+1,s:=W.1 }) (k:=1) (vs:=[.int .i64 W.1.q,.int .i64 W.1.p,.int .i64 W.1.bud,.int .i64 W.1.due,.int .i64 W.1.mode]) hv5 hx5 rfl (by simp) rfl ⟨rfl,rfl,rfl⟩ rfl ⟨d0.id,rfl,d0.sec,d0.held,rfl,d0.ran⟩;refine⟨g9,?_⟩;rw[cP];have hne:m9.nx+7≠b:=by omega
    have hRe9:Row (wr m16 b (o+Int.toNat (i:Int)*11+1) [.int .i64 W.1.q,.int .i64 W.1.p,.int .i64 W.1.bud,.int .i64 W.1.due,.int .i64 W.1.mode]) (m9.nx+7) (encEv ⟨now,1,id,x.num+1⟩) t_model_Event false:=(kB.row hE7.wf hRe7).congr (kU hne);generalize wr m16 b (o+Int.toNat (i:Int)*11+1) [.int .i64 W.1.q,.int .i64 W.1.p,.int .i64 W.1.bud,.int .i64 W.1.due,.int .i64 W.1.mode]=m17 at hE9 hRe9;refine tS hE9.wf fun m18 k18=>⟨_,_,_,_,rfl,?_⟩
    rw[cP];have k19:Keep m17 (newO m18 (row [.int .i64 now,.int .i64 9,.int .i64 id,.int .i64 0] t_model_Event false)):=k18.newO;have hRf:Row (newO m18 (row [.int .i64 now,.int .i64 9,.int .i64 id,.int .i64 0] t_model_Event false)) m18.nx [.int .i64 now,.int .i64 9,.int .i64 id,.int .i64 0] t_model_Event false:=Row.newO;generalize newO m18 (row [.int .i64 now,.int .i64 9,.int .i64 id,.int .i64 0] t_model_Event false)=m19 at k19 hRf;have hRe19:=k19.row hE9.wf hRe9;have hRe19':=hRe19;obtain⟨tr,hg,_⟩:=hRe19';have hap:=sd (cx:=cx) (t:=bJ) (e:=t_model_Event) (s:=4) (m:=m19) (n:=1) (k:=1) (c:=1) (ck:=1) (a:=some ⟨m9.nx+7,0,none⟩) (v:=some ⟨m18.nx,0,none⟩) (old:=encEv ⟨now,1,id,x.num+1⟩) (new:=[.int .i64 now,.int .i64 9,.int .i64 id,.int .i64 0]) (by kernel_rfl)
     (by unfold giveUp;simp only[hg]) (hRe19.first1 rfl) rfl (hRf.first1 rfl) rfl rfl (by omega) (by omega)
    refine⟨_,_,_,_,hap,?_⟩;have k20:Keep m19 (newO m19 (row (encEv ⟨now,1,id,x.num+1⟩++[.int .i64 now,.int .i64 9,.int .i64 id,.int .i64 0]) t_model_Event true)):=(Keep.refl k19.wf).newO;have hR20:Row (newO m19 (row (encEv ⟨now,1,id,x.num+1⟩++[.int .i64 now,.int .i64 9,.int .i64 id,.int .i64 0]) t_model_Event true)) m19.nx (([⟨now,1,id,x.num+1⟩,⟨now,9,id,0⟩]:List pm.Ev).flatMap encEv) t_model_Event true:=Row.newO;refine hJ _ 2 2 _ _ [pm.dQ σ 1 id (x.num+1),pm.dQ σ 9 id 0] _ _ _ _ _ ((hE9.then k19).then k20) ?_ (by omega) (erel.trans ?_) rfl rfl
    .unfold pm.dQ;rw[<-en];exact Arr.of_row fu hR20
    .simp[List.set_set]
  .rw[h4]at erel;simp only[Bool.not_false,cond_true]at erel;exact hJ _ 1 1 m13 _ _ _ _ _ _ _ hE7 (hAe m13 hRe7) (by omega) erel rfl rfl
end
end Go.Proofs.YthpnifigjfplbaaGreat.vc
namespace Go.Proofs.YthpnifigjfplbaaGreat.vc
open Go Go.AX
set_option maxRecDepth 100000
noncomputable section
def ny(u t:Option Addr)(g v s w:Nat)(m:Mem)(Q:Value->Mem->Prop):Prop:=
 splitB (dV (aQ g) (aQ s)) (Q (.bool false) m) (∃c:Int->Mem->Nat->Prop,(∃r:Nat,c 0 m r)/\∀a b o,c a b o->splitB (cR a (aQ g)) ((0<=a/\a<((g:Nat):Int))/\(da u fun i e=>∃p,rd (bump b 9) i (e+Int.toNat a*2)=some (.int .i64 p)/\∃k,rd (bump b 9) i (e+Int.toNat a*2+1)=some (.int .i64 k)/\(0<=a/\a<((s:Nat):Int))/\(da t fun l q=>∃d,rd (bump b 9) l (q+Int.toNat a*2)=some (.int .i64 d)/\∃j,rd (bump b 9) l (q+Int.toNat a*2+1)=some (.int .i64 j)/\∃n,fM cx (bump b 9) 40 fV (.agg #[.int .i64 p,.int .i64 k]) (.agg #[.int .i64 d,.int .i64 j])=some n/\splitB (!n) (Q (.bool false) (bump b 9)) (∃f:Nat,f<o/\c (bh .i64 a 1) (bump b 9) f)))) (Q (.bool true) b))
theorem rF{u t:Option Addr}{g v s w:Nat}{m:Mem}{Q:Value->Mem->Prop}(h:ny u t g v s w m Q):ah cx jI [.slice u g v,.slice t s w] m Q:=
 ah.of (fn:=Tryz.f133) (LS:=[]) (ann:=[none,none,none,none,none,none,some ⟨[0,1,12],[(13,.int .i64)],[],[],[],0⟩]) dm dh (by kernel_rfl) (by kernel_rfl) (Eq.mp (by kernel_rfl) h)
def uF(d k e f o i:Int)(q n:Option Addr)(j g p l:Nat)(m:Mem)(Q:Value->Mem->Prop):Prop:=
 splitB (cU d f) (splitB (cU k o) (splitB (cU e i) (ah cx jI [.slice q j g,.slice n p l] (bump m 2) fun b c=>∃a,b=(.bool a)/\Q (.bool a) c) (Q (.bool false) (bump m 2))) (Q (.bool false) (bump m 2))) (Q (.bool false) (bump m 2))
theorem yK{d k e f o i:Int}{q n:Option Addr}{j g p l:Nat}{m:Mem}{Q:Value->Mem->Prop}(h:uF d k e f o i q n j g p l m Q):ah cx mJ [.agg #[.int .i64 d,.slice q j g,.int .i64 k,.int .i64 e],.agg #[.int .i64 f,.slice n p l,.int .i64 o,.int .i64 i]] m Q:=
 ah.of (fn:=Tryz.f92) (LS:=[2,3]) (ann:=[]) dm dh (by kernel_rfl) (by kernel_rfl) (Eq.mp (by kernel_rfl) h)
def kK(D E:Option Addr)(k G B H:Nat)(F:Value)(m:Mem)(Q:Value->Mem->Prop):Prop:=
 splitB (dV (aQ k) (aQ B)) (Q (.bool false) m) (∃g:Int->Mem->Nat->Prop,(∃A:Nat,g 0 m A)/\∀a b r,g a b r->splitB (cR a (aQ k)) ((0<=a/\a<((k:Nat):Int))/\(da D fun d c=>∃n,rd b d (c+Int.toNat a*4)=some (.int .i64 n)/\∃o v w,rd b d (c+Int.toNat a*4+1)=some (.slice o v w)/\∃i,rd b d (c+Int.toNat a*4+2)=some (.int .i64 i)/\∃y,rd b d (c+Int.toNat a*4+3)=some (.int .i64 y)/\(0<=a/\a<((B:Nat):Int))/\(da E fun e f=>∃q,rd (bump b 1) e (f+Int.toNat a*4)=some (.int .i64 q)/\∃p l s,rd (bump b 1) e (f+Int.toNat a*4+1)=some (.slice p l s)/\∃z,rd (bump b 1) e (f+Int.toNat a*4+2)=some (.int .i64 z)/\∃j,rd (bump b 1) e (f+Int.toNat a*4+3)=some (.int .i64 j)/\(jT cx (bump b 2) F [.agg #[.int .i64 n,.slice o v w,.int .i64 i,.int .i64 y],.agg #[.int .i64 q,.slice p l s,.int .i64 z,.int .i64 j]] fun C u=>∃x,C=(.bool x)/\splitB (!x) (Q (.bool false) u) (∃t:Nat,t<r/\g (bh .i64 a 1) u t))))) (Q (.bool true) b))
theorem oT{D E:Option Addr}{k G B H:Nat}{F:Value}{m:Mem}{Q:Value->Mem->Prop}(h:kK D E k G B H F m Q):ah cx im [.slice D k G,.slice E B H,F] m Q:=
 ah.of (fn:=Tryz.f91) (LS:=[8,9]) (ann:=[none,none,none,none,none,none,some ⟨[1,2,15,16],[(17,.int .i64)],[],[],[],0⟩]) dm dh (by kernel_rfl) (by kernel_rfl) (Eq.mp (by kernel_rfl) h)
def tW(r w e l E f F C t v g z i A x u j n D q:Int)(p B:Option Addr)(k s o y:Nat)(m:Mem)(Q:Value->Mem->Prop):Prop:=
 splitB (cU r g) (∃c,fM cx (bump m 2) 40 eW (.agg #[.int .i64 w,.int .i64 e,.int .i64 l,.int .i64 E,.int .i64 f]) (.agg #[.int .i64 z,.int .i64 i,.int .i64 A,.int .i64 x,.int .i64 u])=some c/\splitB c (ah cx im [.slice p k s,.slice B o y,.func (.func mJ) #[] #[]] (bump m 2) fun d a=>∃b,d=(.bool b)/\splitB b (splitB (cU F j) (splitB (cU C n) (splitB (cU t D) (Q (.bool (cU v q)) a) (Q (.bool false) a)) (Q (.bool false) a)) (Q (.bool false) a)) (Q (.bool false) a)) (Q (.bool false) (bump m 2))) (Q (.bool false) (bump m 2))
theorem xy{r w e l E f F C t v g z i A x u j n D q:Int}{p B:Option Addr}{k s o y:Nat}{m:Mem}{Q:Value->Mem->Prop}(h:tW r w e l E f F C t v g z i A x u j n D q p B k s o y m Q):ah cx lT [.agg #[.int .i64 r,.int .i64 w,.int .i64 e,.int .i64 l,.int .i64 E,.int .i64 f,.slice p k s,.int .i64 F,.int .i64 C,.int .i64 t,.int .i64 v],.agg #[.int .i64 g,.int .i64 z,.int .i64 i,.int .i64 A,.int .i64 x,.int .i64 u,.slice B o y,.int .i64 j,.int .i64 n,.int .i64 D,.int .i64 q]] m Q:=
 ah.of (fn:=Tryz.f42) (LS:=[2,3]) (ann:=[]) dm dh (by kernel_rfl) (by kernel_rfl) (Eq.mp (by kernel_rfl) h)
def pu(r q:Option Addr)(e s o t:Nat)(m:Mem)(Q:Value->Mem->Prop):Prop:=
 splitB (dV (aQ e) (aQ o)) (Q (.bool false) m) (∃c:Int->Mem->Nat->Prop,(∃n:Nat,c 0 m n)/\∀a b f,c a b f->splitB (cR a (aQ e)) ((0<=a/\a<((e:Nat):Int))/\(da r fun k j=>∃i,rd (bump b 9) k (j+Int.toNat a*1)=some (.int .i64 i)/\(0<=a/\a<((o:Nat):Int))/\(da q fun l p=>∃d,rd (bump b 9) l (p+Int.toNat a*1)=some (.int .i64 d)/\splitB (dV i d) (Q (.bool false) (bump b 9)) (∃g:Nat,g<f/\c (bh .i64 a 1) (bump b 9) g)))) (Q (.bool true) b))
theorem tV{r q:Option Addr}{e s o t:Nat}{m:Mem}{Q:Value->Mem->Prop}(h:pu r q e s o t m Q):ah cx lj [.slice r e s,.slice q o t] m Q:=
 ah.of (fn:=Tryz.f38) (LS:=[]) (ann:=[none,none,none,none,none,none,some ⟨[0,1,12],[(13,.int .i64)],[],[],[],0⟩]) dm dh (by kernel_rfl) (by kernel_rfl) (Eq.mp (by kernel_rfl) h)
def tX(d i e k:Int)(p l:Option Addr)(g f n j:Nat)(q o:Bool)(m:Mem)(Q:Value->Mem->Prop):Prop:=
 splitB (cU d e) (splitB (cU i k) (ah cx lj [.slice p g f,.slice l n j] (bump m 2) fun c a=>∃b,c=(.bool b)/\splitB b (Q (.bool (q == o)) a) (Q (.bool false) a)) (Q (.bool false) (bump m 2))) (Q (.bool false) (bump m 2))
theorem xz{d i e k:Int}{p l:Option Addr}{g f n j:Nat}{q o:Bool}{m:Mem}{Q:Value->Mem->Prop}(h:tX d i e k p l g f n j q o m Q):ah cx lU [.agg #[.int .i64 d,.int .i64 i,.slice p g f,.bool q],.agg #[.int .i64 e,.int .i64 k,.slice l n j,.bool o]] m Q:=
 ah.of (fn:=Tryz.f44) (LS:=[2,3]) (ann:=[]) dm dh (by kernel_rfl) (by kernel_rfl) (Eq.mp (by kernel_rfl) h)
def jL(T U:Option Addr)(k W R X:Nat)(V:Value)(m:Mem)(Q:Value->Mem->Prop):Prop:=
 splitB (dV (aQ k) (aQ R)) (Q (.bool false) m) (∃g:Int->Mem->Nat->Prop,(∃P:Nat,g 0 m P)/\∀a b u,g a b u->splitB (cR a (aQ k)) ((0<=a/\a<((k:Nat):Int))/\(da T fun d c=>∃o,rd b d (c+Int.toNat a*11)=some (.int .i64 o)/\∃j,rd b d (c+Int.toNat a*11+1)=some (.int .i64 j)/\∃L,rd b d (c+Int.toNat a*11+2)=some (.int .i64 L)/\∃r,rd b d (c+Int.toNat a*11+3)=some (.int .i64 r)/\∃M,rd b d (c+Int.toNat a*11+4)=some (.int .i64 M)/\∃G,rd b d (c+Int.toNat a*11+5)=some (.int .i64 G)/\∃p D E,rd b d (c+Int.toNat a*11+6)=some (.slice p D E)/\∃t,rd b d (c+Int.toNat a*11+7)=some (.int .i64 t)/\∃H,rd b d (c+Int.toNat a*11+8)=some (.int .i64 H)/\∃K,rd b d (c+Int.toNat a*11+9)=some (.int .i64 K)/\∃y,rd b d (c+Int.toNat a*11+10)=some (.int .i64 y)/\(0<=a/\a<((R:Nat):Int))/\(da U fun e f=>∃s,rd (bump b 1) e (f+Int.toNat a*11)=some (.int .i64 s)/\∃x,rd (bump b 1) e (f+Int.toNat a*11+1)=some (.int .i64 x)/\∃B,rd (bump b 1) e (f+Int.toNat a*11+2)=some (.int .i64 B)/\∃I,rd (bump b 1) e (f+Int.toNat a*11+3)=some (.int .i64 I)/\∃i,rd (bump b 1) e (f+Int.toNat a*11+4)=some (.int .i64 i)/\∃w,rd (bump b 1) e (f+Int.toNat a*11+5)=some (.int .i64 w)/\∃q l v,rd (bump b 1) e (f+Int.toNat a*11+6)=some (.slice q l v)/\∃N,rd (bump b 1) e (f+Int.toNat a*11+7)=some (.int .i64 N)/\∃z,rd (bump b 1) e (f+Int.toNat a*11+8)=some (.int .i64 z)/\∃n,rd (bump b 1) e (f+Int.toNat a*11+9)=some (.int .i64 n)/\∃O,rd (bump b 1) e (f+Int.toNat a*11+10)=some (.int .i64 O)/\(jT cx (bump b 2) V [.agg #[.int .i64 o,.int .i64 j,.int .i64 L,.int .i64 r,.int .i64 M,.int .i64 G,.slice p D E,.int .i64 t,.int .i64 H,.int .i64 K,.int .i64 y],.agg #[.int .i64 s,.int .i64 x,.int .i64 B,.int .i64 I,.int .i64 i,.int .i64 w,.slice q l v,.int .i64 N,.int .i64 z,.int .i64 n,.int .i64 O]] fun S C=>∃F,S=(.bool F)/\splitB (!F) (Q (.bool false) C) (∃A:Nat,A<u/\g (bh .i64 a 1) C A))))) (Q (.bool true) b))
theorem nM{T U:Option Addr}{k W R X:Nat}{V:Value}{m:Mem}{Q:Value->Mem->Prop}(h:jL T U k W R X V m Q):ah cx gI [.slice T k W,.slice U R X,V] m Q:=
 ah.of (fn:=Tryz.f41) (LS:=[8,9]) (ann:=[none,none,none,none,none,none,some ⟨[1,2,15,16],[(17,.int .i64)],[],[],[],0⟩]) dm dh (by kernel_rfl) (by kernel_rfl) (Eq.mp (by kernel_rfl) h)
def jM(D E:Option Addr)(k G B H:Nat)(F:Value)(m:Mem)(Q:Value->Mem->Prop):Prop:=
 splitB (dV (aQ k) (aQ B)) (Q (.bool false) m) (∃g:Int->Mem->Nat->Prop,(∃A:Nat,g 0 m A)/\∀a b r,g a b r->splitB (cR a (aQ k)) ((0<=a/\a<((k:Nat):Int))/\(da D fun d c=>∃n,rd b d (c+Int.toNat a*4)=some (.int .i64 n)/\∃i,rd b d (c+Int.toNat a*4+1)=some (.int .i64 i)/\∃o v x,rd b d (c+Int.toNat a*4+2)=some (.slice o v x)/\∃w,rd b d (c+Int.toNat a*4+3)=some (.bool w)/\(0<=a/\a<((B:Nat):Int))/\(da E fun e f=>∃q,rd (bump b 1) e (f+Int.toNat a*4)=some (.int .i64 q)/\∃z,rd (bump b 1) e (f+Int.toNat a*4+1)=some (.int .i64 z)/\∃p l s,rd (bump b 1) e (f+Int.toNat a*4+2)=some (.slice p l s)/\∃j,rd (bump b 1) e (f+Int.toNat a*4+3)=some (.bool j)/\(jT cx (bump b 2) F [.agg #[.int .i64 n,.int .i64 i,.slice o v x,.bool w],.agg #[.int .i64 q,.int .i64 z,.slice p l s,.bool j]] fun C u=>∃y,C=(.bool y)/\splitB (!y) (Q (.bool false) u) (∃t:Nat,t<r/\g (bh .i64 a 1) u t))))) (Q (.bool true) b))
theorem nN{D E:Option Addr}{k G B H:Nat}{F:Value}{m:Mem}{Q:Value->Mem->Prop}(h:jM D E k G B H F m Q):ah cx gJ [.slice D k G,.slice E B H,F] m Q:=
 ah.of (fn:=Tryz.f43) (LS:=[8,9]) (ann:=[none,none,none,none,none,none,some ⟨[1,2,15,16],[(17,.int .i64)],[],[],[],0⟩]) dm dh (by kernel_rfl) (by kernel_rfl) (Eq.mp (by kernel_rfl) h)
def lu(u t:Option Addr)(g v s w:Nat)(m:Mem)(Q:Value->Mem->Prop):Prop:=
 splitB (dV (aQ g) (aQ s)) (Q (.bool false) m) (∃c:Int->Mem->Nat->Prop,(∃r:Nat,c 0 m r)/\∀a b o,c a b o->splitB (cR a (aQ g)) ((0<=a/\a<((g:Nat):Int))/\(da u fun i e=>∃p,rd (bump b 9) i (e+Int.toNat a*2)=some (.int .i64 p)/\∃k,rd (bump b 9) i (e+Int.toNat a*2+1)=some (.int .i64 k)/\(0<=a/\a<((s:Nat):Int))/\(da t fun l q=>∃d,rd (bump b 9) l (q+Int.toNat a*2)=some (.int .i64 d)/\∃j,rd (bump b 9) l (q+Int.toNat a*2+1)=some (.int .i64 j)/\∃n,fM cx (bump b 9) 40 di (.agg #[.int .i64 p,.int .i64 k]) (.agg #[.int .i64 d,.int .i64 j])=some n/\splitB (!n) (Q (.bool false) (bump b 9)) (∃f:Nat,f<o/\c (bh .i64 a 1) (bump b 9) f)))) (Q (.bool true) b))
theorem pC{u t:Option Addr}{g v s w:Nat}{m:Mem}{Q:Value->Mem->Prop}(h:lu u t g v s w m Q):ah cx it [.slice u g v,.slice t s w] m Q:=
 ah.of (fn:=Tryz.f45) (LS:=[]) (ann:=[none,none,none,none,none,none,some ⟨[0,1,12],[(13,.int .i64)],[],[],[],0⟩]) dm dh (by kernel_rfl) (by kernel_rfl) (Eq.mp (by kernel_rfl) h)
def yL(y D n u:Int)(x s k F r l:Option Addr)(p A G t q C v E z o w B:Nat)(m:Mem)(Q:Value->Mem->Prop):Prop:=
 splitB (cU y n) (splitB (cU D u) (ah cx gI [.slice x p A,.slice F v E,.func (.func lT) #[] #[]] (bump m 2) fun i a=>∃c,i=(.bool c)/\splitB c (ah cx gJ [.slice s G t,.slice r z o,.func (.func lU) #[] #[]] a fun g b=>∃d,g=(.bool d)/\splitB d (ah cx it [.slice k q C,.slice l w B] b fun j f=>∃e,j=(.bool e)/\Q (.bool e) f) (Q (.bool false) b)) (Q (.bool false) a)) (Q (.bool false) (bump m 2))) (Q (.bool false) (bump m 2))
theorem Cm{y D n u:Int}{x s k F r l:Option Addr}{p A G t q C v E z o w B:Nat}{m:Mem}{Q:Value->Mem->Prop}(h:yL y D n u x s k F r l p A G t q C v E z o w B m Q):ah cx tR [.agg #[.int .i64 y,.int .i64 D,.slice x p A,.slice s G t,.slice k q C],.agg #[.int .i64 n,.int .i64 u,.slice F v E,.slice r z o,.slice l w B]] m Q:=
 ah.of (fn:=Tryz.f18) (LS:=[2,3]) (ann:=[]) dm dh (by kernel_rfl) (by kernel_rfl) (Eq.mp (by kernel_rfl) h)
end
end Go.Proofs.YthpnifigjfplbaaGreat.vc
