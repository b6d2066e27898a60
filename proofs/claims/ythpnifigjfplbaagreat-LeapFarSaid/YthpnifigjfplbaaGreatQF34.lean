import Derived.Test.YthpnifigjfplbaaGreatQF32
import Derived.KernelRfl
import Derived.Test.YthpnifigjfplbaaGreatQF33
import Derived.Test.YthpnifigjfplbaaGreatQF24
set_option linter.unusedVariables false
set_option linter.unusedSimpArgs false
set_option linter.unusedSectionVars false
namespace Go.Proofs.YthpnifigjfplbaaGreat.vc
open Go Go.AX
set_option maxRecDepth 100000
noncomputable section
def yG(k:Option Addr)(j i:Nat)(m:Mem)(Q:Value->Mem->Prop):Prop:=
 ah cx iP [.slice k j i] m fun g e=>∃b a c,g=(.slice b a c)/\(ah cx eC [.slice b a c,.func (.func fc) #[] #[]] e fun d f=>d=(.tuple #[])/\Q (.slice b a c) f)
theorem BA{k:Option Addr}{j i:Nat}{m:Mem}{Q:Value->Mem->Prop}(h:yG k j i m Q):ah cx tO [.slice k j i] m Q:=
 ah.of (fn:=Tryz.f154) (LS:=[]) (ann:=[]) dk dh (by kernel_rfl) (by kernel_rfl) (Eq.mp (by kernel_rfl) h)
def yH(j:Int)(p:Option Addr)(t r:Nat)(m:Mem)(Q:Value->Mem->Prop):Prop:=
 ah cx vB [.int .i64 j,.slice p t r] m fun s l=>∃f,s=(.bool f)/\splitB (!f) (Q (.tuple #[.slice none 0 0,.slice none 0 0]) l) (ah cx tO [.slice p t r] l fun q c=>∃d a b,q=(.slice d a b)/\∃n k g,cU cx (bump c 8) gI (.slice d a b) none (some (.int .i64 (fN j (am a)))) none=some (.slice n k g)/\∃o e i,cU cx (bump c 8) gI (.slice d a b) (some (.int .i64 (fN j (am a)))) none none=some (.slice o e i)/\Q (.tuple #[.slice n k g,.slice o e i]) (bump c 8))
theorem BB{j:Int}{p:Option Addr}{t r:Nat}{m:Mem}{Q:Value->Mem->Prop}(h:yH j p t r m Q):ah cx tP [.int .i64 j,.slice p t r] m Q:=
 ah.of (fn:=Tryz.f121) (LS:=[]) (ann:=[]) dk dh (by kernel_rfl) (by kernel_rfl) (Eq.mp (by kernel_rfl) h)
def AQ(o:Int)(y:Option Addr)(r z:Nat)(m:Mem)(Q:Value->Mem->Prop):Prop:=
 dV (fun(g:Mem)=>(cY (newO g (.map [] 0)) fun w=>∃e:Int->Int->Mem->Nat->Prop,(∃x:Nat,e 0 0 w x)/\∀d b a f,e d b a f->splitB (cQ b (am r)) ((0<=b/\b<((r:Nat):Int))/\(db y fun j k=>∃c,rd a j (k+Int.toNat b*3)=some (.int .i64 c)/\∃s,rd a j (k+Int.toNat b*3+1)=some (.int .i64 s)/\∃l,rd a j (k+Int.toNat b*3+2)=some (.bool l)/\(dV (fun(t:Mem)=>∃i,fy cx t pG (.map (some g.nx)) (.int .i64 c) (.bool true)=some i/\splitB l (∃p:Nat,p<f/\e (bh .i64 d 1) (bh .i64 b 1) i p) (∃n:Nat,n<f/\e d (bh .i64 b 1) i n)) fun v=>splitB (cQ c 0) (Q (.bool false) (bump a 1)) (splitB (leI 1024 c) (Q (.bool false) (bump a 1)) (∃q,lE cx (bump a 1) pG (.map (some g.nx)) (.int .i64 c) false=some (.bool q)/\splitB q (Q (.bool false) (bump a 1)) (v (bump a 1))))))) (Q (.bool (leI d o)) a))) fun u=>splitB (cQ o 1) (Q (.bool false) m) (splitB (cQ 64 o) (Q (.bool false) m) (splitB (cQ 64 (am r)) (Q (.bool false) m) (u m)))
theorem C0{o:Int}{y:Option Addr}{r z:Nat}{m:Mem}{Q:Value->Mem->Prop}(h:AQ o y r z m Q):ah cx vB [.int .i64 o,.slice y r z] m Q:=
 ah.of (fn:=Tryz.f153) (LS:=[8]) (ann:=[none,some ⟨[0,1],[],[],[],[],0⟩,none,none,none,none,none,none,some ⟨[0,5,21,22],[(6,.int .i64),(23,.int .i64)],[],[],[],1⟩,none,none,none,none,some ⟨[0,5,6,21,22,23],[],[(8,2,0)],[2],[],4⟩]) dk dh (by kernel_rfl) (by kernel_rfl) (Eq.mp (by kernel_rfl) h)
def AR(I:Int)(H:Option Addr)(G F:Nat)(m:Mem)(Q:Value->Mem->Prop):Prop:=
 ah cx tP [.int .i64 I,.slice H G F] m fun u w=>∃p j B C t A,u=(.tuple #[.slice p j B,.slice C t A])/\∃f:Option Addr->Nat->Nat->Int->Mem->Nat->Prop,(∃z:Nat,f none 0 0 0 w z)/\∀e d c a b l,f e d c a b l->splitB (cQ a (am j)) ((0<=a/\a<((j:Nat):Int))/\(db p fun i g=>∃n,rd b i (g+Int.toNat a*3)=some (.int .i64 n)/\∃x,rd b i (g+Int.toNat a*3+1)=some (.int .i64 x)/\∃v,rd b i (g+Int.toNat a*3+2)=some (.bool v)/\(cY (newO (bump b 1) (row [.int .i64 n] t_int false)) fun D=>∃o q s k,bQ cx D [de,de] [.slice e d c,.slice (some ⟨(bump b 1).nx,0,none⟩) 1 1]=some (.slice o q s,k)/\∃r:Nat,r<l/\f o q s (bh .i64 a 1) k r))) (ah cx fC [.slice e d c] b fun E y=>E=(.tuple #[])/\Q (.slice e d c) y)
theorem C1{I:Int}{H:Option Addr}{G F:Nat}{m:Mem}{Q:Value->Mem->Prop}(h:AR I H G F m Q):ah cx vC [.int .i64 I,.slice H G F] m Q:=
 ah.of (fn:=Tryz.f82) (LS:=[9]) (ann:=[none,none,none,none,none,some ⟨[16,17],[(5,.sl),(18,.int .i64)],[],[],[],0⟩]) dk dh (by kernel_rfl) (by kernel_rfl) (Eq.mp (by kernel_rfl) h)
def lX(i:Option Addr)(g f:Nat)(m:Mem)(Q:Value->Mem->Prop):Prop:=
 ∃c,gD cx m 40 gI (.slice i g f) (.slice none 0 0)=some c/\splitB c (Q (.slice none 0 0) m) (cY (newO m (row [] ip false)) fun j=>∃a e d b,bQ cx j [gI,gI] [.slice (some ⟨m.nx,0,none⟩) 0 0,.slice i g f]=some (.slice a e d,b)/\Q (.slice a e d) b)
theorem pH{i:Option Addr}{g f:Nat}{m:Mem}{Q:Value->Mem->Prop}(h:lX i g f m Q):ah cx iP [.slice i g f] m Q:=
 ah.of (fn:=Tryz.f163) (LS:=[]) (ann:=[]) dk dh (by kernel_rfl) (by kernel_rfl) (Eq.mp (by kernel_rfl) h)
end
end Go.Proofs.YthpnifigjfplbaaGreat.vc
namespace Go.Proofs.YthpnifigjfplbaaGreat.vc
open Go Go.AX
theorem nQ(x:pl.E):(eZ x).length=3:=rfl
theorem IW(x:pl.E):(eZ x).all one1=true:=rfl
def vA(l:List pl.E):Int->Option Value:=fun j=>if j∈pl.ids l then some (.bool true) else none
theorem Hb(n:Int):AX.mapKey cx pG (.int .i64 n)=some (.int .i64,EH):=by kernel_rfl
theorem Lp:fe cx EH=some (.bool false):=by kernel_rfl
theorem Lq{k:Nat}(h:k<=1000000):bh .i64 (k:Int) 1=((k+1:Nat):Int):=by rw[dI (by omega) (by omega)];omega
theorem IX{n k:Nat}(h:k<n):n-(k+1)<n-k:=by omega
theorem zo(l:List pl.E)(x:pl.E):pl.ids (l++[x])=pl.ids l++[x.1]:=by simp[pl.ids]
theorem IY(l:List pl.E)(x:pl.E):pl.nfix (l++[x])=pl.nfix l+if x.2.2=true then 1 else 0:=by
 unfold pl.nfix;rw[List.countP_append,List.countP_cons,List.countP_nil];simp
theorem Me(l:List pl.E):pl.nfix l<=l.length:=List.countP_le_length
theorem Hc{l:List pl.E}{n k:Nat}(h:l.length=n)(hn:(n:Int)<=64):pl.nfix (l.take k)<=1000000:=by
 have h1:=Me (l.take k);rw[List.length_take]at h1;omega
theorem gv{α : Type}{l:List α}{i:Nat}{x:α}(h:l[i]? = some x):l.take (i+1)=l.take i++[x]:=by
 rw[List.take_add_one,h];rfl
open Classical in
noncomputable def AP(m:Int)(l:List pl.E):Bool:=decide (pl.Good m l)
open Classical in
theorem tj{m:Int}{l:List pl.E}:AP m l=true↔pl.Good m l:=by unfold AP;rw[decide_eq_true_iff]
theorem Fx{m:Int}{l:List pl.E}(h:¬pl.Good m l):AP m l=false:=Bool.eq_false_iff.2 fun e=>h (tj.1 e)
section
variable {m:Mem}{Q:Value->Mem->Prop}{a:Option Addr}{n c:Nat}{l:List pl.E}{mm:Int}
theorem KJ(hw:Wf m)(hl:Arr eZ 3 m a n l)(h:∀m',Keep m m'->Q (.bool (AP mm l)) m'):ah cx vB [.int .i64 mm,.slice a n c] m Q:=by
 have no:¬pl.Good mm l->∀m',Keep m m'->Q (.bool false) m':=fun hn m' k=>by
  have:=h m' k;rw[Fx hn]at this;exact this
 apply C0;unfold AQ;simp only[dV];refine dF (fun e=>no (fun g=>by have:=g.m1;omega) m (Keep.refl hw)) fun e1=>?_
 refine dF (fun e=>no (fun g=>by have:=g.m2;omega) m (Keep.refl hw)) fun e2=>?_
 refine dF (fun e=>no (fun g=>by unfold am at e;have:=g.len;have:=hl.1;omega) m (Keep.refl hw)) fun e3=>?_
 unfold am at *;rw[cP];generalize hm2:newO m _=m2;have k2:Keep m m2:=hm2▸(Keep.refl hw).newO;have n2:m2.nx=m.nx+1:=by rw[<-hm2];rfl
 have i2:nI m2 m.nx .i64 (vA []):=hm2▸nI.newO;refine⟨fun f i m3 w=>∃k:Nat,k<=n/\i=(k:Int)/\w=n-k/\f=(pl.nfix (l.take k):Int)/\Keep m m3/\m.nx<m3.nx/\nI m3 m.nx .i64 (vA (l.take k))/\(∀x∈l.take k,0<=x.1/\x.1<=1023)/\(pl.ids (l.take k)).Nodup,
  ⟨n,0,by omega,rfl,by omega,rfl,k2,by omega,i2,by simp,by simp[pl.ids]⟩,?_⟩
 rintro f i m3 w ⟨k,hk,rfl,rfl,rfl,k3,n3,i3,hid,hnd⟩;refine dF (fun e=>?_) (fun e=>?_)
 .have hkn:k<n:=by omega
  obtain⟨x,hx⟩:=hl.get hkn;refine hl.open hx fun b o hc=>?_
  have hc1:=hc.keep hw k3;have hmem:x∈l:=List.mem_of_getElem? hx;refine⟨x.1,hc1 0 _ rfl,x.2.1,hc1 1 _ rfl,x.2.2,hc1 2 _ rfl,?_⟩;have k4:Keep m (bump m3 1):=k3.bump;have i4:nI (bump m3 1) m.nx .i64 (vA (l.take k)):=i3.congr rfl;have n4:m.nx<(bump m3 1).nx:=by simp;omega
  generalize bump m3 1=m4 at k4 i4 n4;refine dF (fun e=>no (fun g=>by have:=(g.id _ hmem).1;omega) m4 k4) fun e4=>?_
  refine wc (fun e=>no (fun g=>by have:=(g.id _ hmem).2;omega) m4 k4) fun e5=>?_
  by_cases hin:x.1∈pl.ids (l.take k)
  .refine⟨true,?_,?_⟩
   .rw[i4.look (Hb x.1) Lp];unfold vA;rw[if_pos hin];rfl
   .rw[fg];refine no (fun g=>?_) m4 k4;have h1:=g.nd;rw[<-List.take_append_drop (k+1) l,gv hx,List.append_assoc]at h1;unfold pl.ids at h1 hin;rw[List.map_append,List.map_append,List.nodup_append]at h1;exact h1.2.2 _ hin x.1 (by simp) rfl
  .refine⟨false,?_,?_⟩
   .rw[i4.look (Hb x.1) Lp];unfold vA;rw[if_neg hin];rfl
   .rw[fM];obtain⟨m7,u1,u2,u3,u4,u5⟩:=i4.update (by have:=k4.fl;have:=hw.1;omega) (Hb x.1) (.bool true);have k7:Keep m m7:=⟨k4.wf.at (r:=m.nx) (by omega) u3 u4 (fun b hb=>u5 b hb),by have:=k4.nx;omega,by rw[u4];exact k4.fl,fun b hb=>by rw[u5 b (by omega)];exact k4.get b hb⟩;refine⟨m7,u1,?_⟩;have i7:nI m7 m.nx .i64 (vA (l.take (k+1))):=by
     have:Ds (vA (l.take k)) x.1 (.bool true)=vA (l.take (k+1)):=by
      funext j;unfold Ds vA;rw[gv hx,zo];by_cases hj:j=x.1
      .subst hj;simp
      .rw[if_neg hj];simp[hj]
     rw[<-this];exact u2
    have ek:bh .i64 (k:Int) 1=((k+1:Nat):Int):=Lq (by omega);have hid':∀y∈l.take (k+1),0<=y.1/\y.1<=1023:=by
     rw[gv hx];intro y hy;rcases List.mem_append.1 hy with q|q
     .exact hid y q
     .simp at q;subst q;exact⟨e4,by omega⟩
    have hnd':(pl.ids (l.take (k+1))).Nodup:=by
     rw[gv hx,zo,List.nodup_append];exact⟨hnd,by simp,fun a ha b hb=>by simp at hb;subst hb;rintro rfl;exact hin ha⟩
    have hf:=IY (l.take k) x;rw[<-gv hx]at hf;have hfl:=Hc (k:=k) hl.1 e3;have n7:m.nx<m7.nx:=by omega
    refine cO (fun hb=>?_) (fun hb=>?_)
    .refine⟨n-(k+1),IX hkn,k+1,hkn,ek,rfl,?_,k7,n7,i7,hid',hnd'⟩;rw[Lq hfl,hf,if_pos hb]
    .refine⟨n-(k+1),IX hkn,k+1,hkn,ek,rfl,?_,k7,n7,i7,hid',hnd'⟩;rw[hf,hb];simp
 .have:k=n:=by omega
  subst this;have hlk:l.take k=l:=List.take_of_length_le (by rw[hl.1];exact Nat.le_refl _);rw[hlk]at hid hnd ⊢;refine dC h k3 ?_;have hg:AP mm l=leI (pl.nfix l:Int) mm:=by
   rw[Bool.eq_iff_iff,tj,fU];exact⟨fun g=>g.fx,fun g=>⟨by omega,by omega,by have:=hl.1;omega,hid,hnd,g⟩⟩
  rw[hg]
theorem IZ(hw:Wf m)(hl:Arr eZ 3 m a n l)(hn:n<=1000000)(h:∀m' a' c',Keep m m'->OwnSl m m' ip a' n c' (l.flatMap eZ)->Q (.slice a' n c') m'):ah cx iP [.slice a n c] m Q:=by
 apply pH;unfold lX;exact rk (by kernel_rfl) nQ IW hw hl hn h
theorem KL{m0:Mem}(hw:Wf m)(hfl:m.fl<=m0.nx)(hl:l.length=n)(ho:OwnSl m0 m ip a n c (l.flatMap eZ))(hn:n<=1000000)
  (h:∀m',Wf m'->Fr m m' (blk a)->OwnSl m0 m' ip a n c ((pl.srt l).flatMap eZ)->Q (.tuple #[]) m'):ah cx eC [.slice a n c,.func (.func fc) #[] #[]] m Q:=by
 have hz:n=0->ah cx eC [.slice a n c,.func (.func fc) #[] #[]] m Q:=fun h0=>by
  subst h0;have hl0:l=[]:=List.length_eq_zero_iff.1 hl;subst hl0;have e0:pl.srt []=[]:=List.eq_nil_of_length_eq_zero (by rw[pl.srt_length];rfl);refine ah.ov dh IV (r:=.tuple #[]) (u':=m) ?_ (h m hw (Fr.refl _ _) (by rw[e0];exact ho));unfold zn oQ;simp only[if_true]
 generalize hL:l.flatMap eZ=L at ho;cases ho with
 | nil=>exact hz rfl
 | empty b cc h1 h2=>exact hz rfl
 | row b n L h0 hb hR=>
  subst hL;have hsl:((pl.srt l).flatMap eZ).length=(l.flatMap eZ).length:=by rw[dm nQ,dm nQ,pl.srt_length]
  have hR2:Row (wr m b 0 ((pl.srt l).flatMap eZ)) b ((pl.srt l).flatMap eZ) ip true:=by
   have:=hR.wr (o:=0) (vs:=(pl.srt l).flatMap eZ) (by rw[hsl];omega);have e:over (l.flatMap eZ) 0 ((pl.srt l).flatMap eZ)=(pl.srt l).flatMap eZ:=by
    unfold over;rw[List.take_zero,List.drop_eq_nil_of_le (by omega),List.nil_append,List.append_nil]
   rw[e]at this;exact this
  refine ah.ov dh IV (r:=.tuple #[]) (u':=wr m b 0 ((pl.srt l).flatMap eZ)) ?_ (h _ hw.wr ((Fr.refl m _).wr (.inl (by simp[blk]))) (.row b n _ h0 hb hR2));have hlen:(l.flatMap eZ).length=n*3:=by rw[dm nQ,hl]
  obtain⟨tr,hg,hc⟩:=hR;have hrl:ia tr (n*3) 0=some (l.flatMap eZ):=by
   have:=nH (c:=tr) (vs:=l.flatMap eZ) (i:=0) (fun j v hv=>by rw[Nat.zero_add,hc j (List.getElem?_eq_some_iff.1 hv).1];exact hv)
   rwa [hlen]at this
  cases n with
  | zero=>omega
  | succ k=>
   unfold zn oQ;simp only[if_true,hg,hrl,An,Co,hl];rw[if_pos ⟨by rw[hlen];omega,by omega,by omega⟩];unfold wr;simp only[hg]
theorem I0(hw:Wf m)(hl:Arr eZ 3 m a n l)(hn:n<=1000000)(h:∀m' a' c',Keep m m'->OwnSl m m' ip a' n c' ((pl.srt l).flatMap eZ)->Q (.slice a' n c') m'):ah cx tO [.slice a n c] m Q:=by
 apply BA;unfold yG;refine IZ hw hl hn fun m1 a' c' k1 ho=>⟨_,_,_,rfl,KL (m0:=m) k1.wf (by rw[k1.fl];exact hw.1) hl.1 ho hn fun m2 hw2 f2 ho2=>⟨rfl,?_⟩⟩
 exact h m2 a' c' (Keep.of_fr k1 hw2 f2 ho.blk) ho2
theorem Nb:cx.un.get gI=some (.slice ip):=by kernel_rfl
theorem Nc:dE cx ip=some 3:=by kernel_rfl
theorem Gd{cx:Cx}{t e s:Nat}{m0:Mem}{a:Option Addr}{n c i j:Nat}{L:List Value}{lo hi:Option Value}(ht:cx.un.get t=some (.slice e))(hs:dE cx e=some s)(ho:OwnSl m0 m e a n c L)(hhi:eW n hi c=some j)(hlo:eW 0 lo j=some i)(hjc:j<=c) :
  ∃a',cU cx m t (.slice a n c) lo hi none=some (.slice a' (j-i) (c-i))/\((a=none/\a'=none)∨∃b,a=some ⟨b,0,none⟩/\a'=some ⟨b,i*s,none⟩):=by
 cases ho with
 | nil=>
  refine⟨none,?_,.inl ⟨rfl,rfl⟩⟩;unfold cU;simp only[ht,hs,hhi,hlo]
 | empty b cc h1 h2=>
  refine⟨some ⟨b,i*s,none⟩,?_,.inr ⟨b,rfl,rfl⟩⟩;have:=eU (cx:=cx) (m:=m) (b:=b) (o:=0) (n:=0) (c:=0) (lo:=lo) (hi:=hi) (i:=i) (j:=j) ht hs hhi hlo (by unfold sameSize;rw[h2]) hjc;rw[Nat.zero_add]at this;exact this
 | row b n L h0 h1 h2=>
  refine⟨some ⟨b,i*s,none⟩,?_,.inr ⟨b,rfl,rfl⟩⟩;have:=eU (cx:=cx) (m:=m) (b:=b) (o:=0) (n:=n) (c:=n) (lo:=lo) (hi:=hi) (i:=i) (j:=j) ht hs hhi hlo (h2.sameSize hs) hjc;rw[Nat.zero_add]at this;exact this
theorem I1(hw:Wf m)(hl:Arr eZ 3 m a n l)
  (h:∀m' a1 n1 c1 a2 n2 c2,Keep m m'->Arr eZ 3 m' a1 n1 (pl.run mm l)->Q (.tuple #[.slice a1 n1 c1,.slice a2 n2 c2]) m'):ah cx tP [.int .i64 mm,.slice a n c] m Q:=by
 apply BB;unfold yH;refine KJ (mm:=mm) hw hl fun m1 k1=>⟨_,rfl,fm (fun hg=>?_) (fun hg=>?_)⟩
 .have hb:¬pl.Good mm l:=fun g=>by rw[tj.2 g]at hg;cases hg
  refine h m1 none 0 0 none 0 0 k1 ?_;rw[pl.run_bad hb];exact iZ.nil
 .have g:=tj.1 hg;have hln:=hl.1;have hn64:=g.len;refine I0 k1.wf (hl.keep hw k1) (by omega) fun m2 a' c' k2 ho=>⟨_,_,_,rfl,?_⟩
  have k:=(k1.trans k2).bump (n:=8);have ho2:OwnSl m1 (bump m2 8) ip a' n c' ((pl.srt l).flatMap eZ):=ho.keep k2.wf ((Keep.refl k2.wf).bump);have hcn:c'=n:=ho2.cap;subst hcn;have e:fN mm (am c')=((min mm.toNat c':Nat):Int):=by
   have:=g.m1;unfold fN am;split<;>omega
  rw[e];have hmn:min mm.toNat c'<=c':=Nat.min_le_right _ _;obtain⟨b1,p1,q1⟩:=Gd (cx:=cx) (lo:=none) (hi:=some (.int .i64 ((min mm.toNat c':Nat):Int))) Nb Nc ho2 (dA hmn) nj hmn;obtain⟨b2,p2,_⟩:=Gd (cx:=cx) (lo:=some (.int .i64 ((min mm.toNat c':Nat):Int))) (hi:=none) Nb Nc ho2 nj (dA hmn) (Nat.le_refl _);refine⟨_,_,_,p1,_,_,_,p2,?_⟩;refine h _ _ _ _ _ _ _ k ?_;have hA:=ho2.arr nQ (by omega) (by rw[pl.srt_length];exact hln);rw[pl.run_good g];refine⟨by rw[List.length_take,pl.srt_length,hln];omega,fun i x hx=>?_⟩;have hx':(pl.srt l)[i]? = some x:=by
   rw[List.getElem?_take]at hx;split at hx
   .exact hx
   .cases hx
  obtain⟨b,o,e1,e2⟩:=hA.2 i x hx';rcases q1 with⟨rfl,_⟩|⟨b',rfl,rfl⟩
  .cases e1
  .cases e1;exact⟨b,0*3,rfl,by rw[Nat.zero_mul];exact e2⟩
theorem zp:∀l:List Int,l.flatMap encI=l.map (Value.int .i64 ·)
 | []=>rfl
 | x::r=>by rw[List.flatMap_cons,zp r];rfl
theorem KM{m0:Mem}{zs:List Int}(hacc:Acc m0 m a n c 1 t_int (zs.flatMap encI))(hw0:Wf m0)(hn:n<=1000000)
  (h:∀m',Acc m0 m' a n c 1 t_int ((pl.srtI zs).flatMap encI)->Q (.tuple #[]) m'):ah cx fC [.slice a n c] m Q:=by
 have hw:=hacc.keep.wf;have hsl:(pl.srtI zs).length=zs.length:=(pl.srtI_perm zs).length_eq;have hl:=hacc.len dM (by omega);obtain⟨hg1,hG⟩:=hacc.grow;have hz:n=0->ah cx fC [.slice a n c] m Q:=fun h0=>by
  subst h0;have hl0:zs=[]:=List.length_eq_zero_iff.1 hl;subst hl0;have e0:pl.srtI []=[]:=List.mergeSort_nil;refine ah.ov dh Gc (r:=.tuple #[]) (u':=m) (by unfold vz oQ;simp only[if_true]) (h m (by rw[e0];exact hacc))
 rcases hG with⟨_,h0,_⟩|⟨b,rfl,rfl,hfl,hR⟩
 .exact hz h0
 .cases c with
  | zero=>exact hz rfl
  | succ k=>
   rw[zp]at hR;have hR2:Row (wr m b 0 ((pl.srtI zs).map (Value.int .i64 ·))) b ((pl.srtI zs).map (Value.int .i64 ·)) t_int true:=by
    have:=hR.wr (o:=0) (vs:=(pl.srtI zs).map (Value.int .i64 ·)) (by simp[hsl]);have e:over (zs.map (Value.int .i64 ·)) 0 ((pl.srtI zs).map (Value.int .i64 ·))=(pl.srtI zs).map (Value.int .i64 ·):=by
     unfold over;rw[List.take_zero,List.drop_eq_nil_of_le (by simp[hsl]),List.nil_append,List.append_nil]
    rw[e]at this;exact this
   have hb:m0.nx<=b:=hacc.new b (by simp[blk]);refine ah.ov dh Gc (r:=.tuple #[]) (u':=wr m b 0 ((pl.srtI zs).map (Value.int .i64 ·))) ?_ (h _ ⟨hacc.keep.wr hb,⟨?_,.inr ⟨b,rfl,rfl,by simpa using hfl,?_⟩⟩,hacc.new⟩)
   .obtain⟨tr,hg,hc⟩:=hR;have hrl:ia tr ((k+1)*1) 0=some (zs.map (Value.int .i64 ·)):=by
     have:=nH (c:=tr) (vs:=zs.map (Value.int .i64 ·)) (i:=0) (fun j v hv=>by rw[Nat.zero_add,hc j (List.getElem?_eq_some_iff.1 hv).1];exact hv)
     rwa [List.length_map,hl,<-Nat.mul_one (k+1)]at this
    unfold vz oQ;simp only[if_true,hg,hrl,Am,Al];rw[if_pos ⟨by simp;omega,hfl,by omega⟩];unfold wr;simp only[hg];rfl
   .rw[dm dM,hsl,hl]
   .rw[zp];exact hR2
theorem KN(hw:Wf m)(hl:Arr eZ 3 m a n l)(h:∀m' a' c',Acc m m' a' (pl.pick mm l).length c' 1 t_int ((pl.pick mm l).flatMap encI)->Q (.slice a' (pl.pick mm l).length c') m'):ah cx vC [.int .i64 mm,.slice a n c] m Q:=by
 apply C1;unfold AR;refine I1 hw hl fun m1 a13 n13 c13 a2 n2 c2 k1 hA=>⟨_,_,_,_,_,_,rfl,?_⟩
 have hn:n13<=64:=by
  rw[<-hA.1];by_cases g:pl.Good mm l
  .rw[pl.run_length g];have:=g.len;omega
  .rw[pl.run_bad g];simp
 refine oF (show n13<=4611686018427387904 by omega) (fun k a5 n5 c5 m2=>n5=k/\Acc m1 m2 a5 n5 c5 1 t_int ((pl.ids ((pl.run mm l).take k)).flatMap encI)) ⟨rfl,Acc.nil (Keep.refl k1.wf) _ _⟩ ?_;rintro k a5 n5 c5 m2 hk ⟨rfl,hacc⟩ I w hI;refine dN (fun hlt=>?_) (fun hge=>?_)
 .obtain⟨x,hx⟩:=hA.get hlt;refine hA.open hx fun b o hc=>?_
  have hc1:=hc.keep k1.wf hacc.keep;refine⟨x.1,hc1 0 _ rfl,x.2.1,hc1 1 _ rfl,x.2.2,hc1 2 _ rfl,?_⟩;rw[cP];obtain⟨m4,p1,p2,p3,p4,p5⟩:=(hacc.then ((Keep.refl hacc.keep.wf).bump (n:=1))).push (cx:=cx) (t:=de) (vs:=[.int .i64 x.1]) (by kernel_rfl) rfl rfl (by omega);refine⟨_,_,_,_,p1,hI _ _ _ _ hlt ⟨rfl,?_⟩⟩;rw[gv hx,zo,List.flatMap_append];exact p2
 .have ht:(pl.run mm l).take n5=pl.run mm l:=List.take_of_length_le (by rw[hA.1];exact hge);rw[ht]at hacc;have hlen:=hacc.len dM (by omega);have hpl:(pl.pick mm l).length=n5:=by
   unfold pl.pick;rw[(pl.srtI_perm _).length_eq,hlen]
  refine KM hacc k1.wf (by omega) fun m5 hacc2=>⟨rfl,?_⟩
  have:=h m5 a5 c5 ⟨k1.trans hacc2.keep,by rw[hpl];exact hacc2.grow,fun b hb=>Nat.le_trans k1.nx (hacc2.new b hb)⟩;rw[hpl]at this;exact this
end
end Go.Proofs.YthpnifigjfplbaaGreat.vc
namespace Go.Proofs.YthpnifigjfplbaaGreat.vc
open Go Go.AX
theorem A4(l:List pm.Serv)(x:pm.Serv):pm.ready (l++[x])=pm.ready l++(bif cT x.s.mode 1 then [x] else []):=by
 unfold pm.ready;rw[List.filter_append,List.filter_cons,List.filter_nil];cases cT x.s.mode 1<;>rfl
theorem I9(l:List pm.Serv):(pm.ready l).length<=l.length:=List.length_filter_le _ _
theorem iU(s:pm.St)(hM:1<=s.m):((pm.aQ s).length:Int)<=s.m:=by
 unfold pm.aQ;by_cases g:pl.Good s.m ((pm.ready s.servs).map pm.Serv.ent)
 .rw[pl.pick_length g];omega
 .unfold pl.pick;rw[pl.run_bad g];have:(pl.srtI (pl.ids [])).length=0:=by rw[(pl.srtI_perm _).length_eq];rfl
  omega
theorem BF:cx.un.get cm=some (.slice da):=by kernel_rfl
theorem jx:dE cx da=some 2:=by kernel_rfl
section
variable {m:Mem}{Q:Value->Mem->Prop}{M now:Int}{a1 a2 a3:Option Addr}{n1 c1 n2 c2 n3 c3:Nat}{σ : pm.St}
theorem rz(hw:Wf m)(hσ : RdSt cx m M now a1 n1 a2 n2 a3 n3 c3 σ)(h1:n1<=100000)(h3:n3<=100000)(hM:1<=M)(hM2:M<=1000000)
  (h:∀m' a c a' c',Keep m m'->Arr encI 1 m' a (pm.aQ σ).length (pm.aQ σ)->Arr encI 1 m' a' (pm.fu σ).length (pm.fu σ)->(∀b∈blk a,m.nx<=b)->(∀b∈blk a',m.nx<=b)->Q (.tuple #[.slice a (pm.aQ σ).length c,.slice a' (pm.fu σ).length c']) m') :
  ah cx iq [.agg #[.int .i64 M,.int .i64 now,.slice a1 n1 c1,.slice a2 n2 c2,.slice a3 n3 c3]] m Q:=by
 apply A5;unfold xt;obtain⟨ss,ha,hs⟩:=hσ.servs;have k0:Keep m (bump m 1):=(Keep.refl hw).bump;have hl1:=hσ.len1;refine oF (show n1<=4611686018427387904 by omega) (fun k a4 n4 c4 m1=>Acc m m1 a4 n4 c4 3 ip (((pm.ready (σ.servs.take k)).map pm.Serv.ent).flatMap eZ)) (Acc.nil k0 _ _) ?_;rintro k a4 n4 c4 m1 hk hacc I w hI;have hlen:=hacc.len nQ (by omega);have hle:=I9 (σ.servs.take k);rw[List.length_map]at hlen;rw[List.length_take]at hle;refine dN (fun hlt=>?_) (fun hge=>?_)
 .obtain⟨sv,hsv⟩:=ha.get hlt;obtain⟨x,hx,hR⟩:=hs.get hsv;refine ha.open hsv fun b o hc=>?_
  have hc1:=hc.keep hw hacc.keep;refine⟨_,hc1 0 _ rfl,_,hc1 1 _ rfl,_,hc1 2 _ rfl,_,hc1 3 _ rfl,_,hc1 4 _ rfl,_,hc1 5 _ rfl,_,_,_,hc1 6 _ rfl,_,hc1 7 _ rfl,_,hc1 8 _ rfl,_,hc1 9 _ rfl,_,hc1 10 _ rfl,?_⟩;have hacc':=hacc.then ((Keep.refl hacc.keep.wf).bump (n:=1));rw[hR.s];refine cO (fun hb=>?_) (fun hb=>?_)
  .rw[cP];obtain⟨m4,p1,p2,p3,p4,p5⟩:=hacc'.push (cx:=cx) (t:=gI) (vs:=eZ x.ent) (by kernel_rfl) rfl rfl (by omega);have e:eZ x.ent=[.int .i64 sv.id,.int .i64 x.s.due,.bool (dY sv.sec 0)]:=by rw[hR.id,hR.sec];rfl
   rw[e]at p1;refine⟨_,_,_,_,p1,hI _ _ _ _ hlt ?_⟩;rw[gv hx,A4,hb,cond_true,List.map_append,List.flatMap_append];simpa using p2
  .refine hI _ _ _ _ hlt ?_;rw[gv hx,A4,hb,cond_false,List.append_nil];exact hacc'
 .have ht:σ.servs.take k = σ.servs:=List.take_of_length_le (by omega);rw[ht]at hacc;have hE:=hacc.arr nQ (by omega);refine KN (mm:=M) hacc.keep.wf hE fun m2 a' c' hacc2=>⟨_,_,_,rfl,?_⟩
  have hru:pl.pick M ((pm.ready σ.servs).map pm.Serv.ent)=pm.aQ σ:=by unfold pm.aQ;rw[hσ.em]
  rw[hru]at hacc2 ⊢;have k2:Keep m m2:=hacc.keep.trans hacc2.keep;have hσ2:=hσ.keep hw k2;have hrl:=iU σ (by rw[<-hσ.em];exact hM);rw[<-hσ.em]at hrl;have hl3:=hσ.len3;obtain⟨j,hj,hjn⟩:∃j:Nat,fN (cZ .i64 M (am (pm.aQ σ).length)) (am n3)=(j:Int)/\j<=n3:=by
   have e:cZ .i64 M (am (pm.aQ σ).length)=M-(pm.aQ σ).length:=eF (by unfold am;omega) (by unfold am;omega);rw[e];unfold fN am;split
   .exact⟨n3,rfl,Nat.le_refl _⟩
   .exact⟨(M-(pm.aQ σ).length).toNat,by omega,by omega⟩
  rw[hj];obtain⟨hc3,_⟩:=hσ2.cut;obtain⟨ac,p1,q1⟩:=hσ2.cut.cut (lo:=none) (hi:=some (.int .i64 (j:Int))) BF jx (dA (by omega)) nj (by omega:j<=c3);refine⟨_,_,_,p1,?_⟩;have hB:=hσ2.backs.cut (i:=0) hjn q1;rw[List.drop_zero,Nat.sub_zero]at hB;have hA2:=hacc2.arr dM (by omega);have hbk:(σ.backs.take j).map (·.id)=pm.fu σ:=by
   unfold pm.fu;rw[<-hσ.em,hl3,hj,Int.toNat_natCast]
  refine oF (show j-0<=4611686018427387904 by omega) (fun k a4 n4 c4 m1=>n4=k/\Acc m2 m1 a4 n4 c4 1 t_int (((σ.backs.take k).map (·.id)).flatMap encI)) ⟨rfl,Acc.nil (Keep.refl k2.wf) _ _⟩ ?_;rintro k a4 n4 c4 m3 hk ⟨rfl,hacc3⟩ I w hI;refine dN (fun hlt=>?_) (fun hge=>?_)
  .obtain⟨x,hx⟩:=hB.get hlt;refine hB.open hx fun b o hc=>?_
   have hc1:=hc.keep k2.wf hacc3.keep;refine⟨x.id,hc1 0 _ rfl,x.ran,hc1 1 _ rfl,?_⟩;rw[cP];obtain⟨m4,p1,p2,p3,p4,p5⟩:=(hacc3.then ((Keep.refl hacc3.keep.wf).bump (n:=1))).push (cx:=cx) (t:=de) (vs:=[.int .i64 x.id]) (by kernel_rfl) rfl rfl (by omega);refine⟨_,_,_,_,p1,hI _ _ _ _ hlt ⟨rfl,?_⟩⟩;have hx':σ.backs[n4]? = some x:=by
    rw[List.getElem?_take]at hx;split at hx
    .exact hx
    .cases hx
   rw[gv hx',List.map_append,List.flatMap_append];exact p2
  .have hkj:n4=j:=by omega
   subst hkj;rw[hbk]at hacc3;have hln:=hacc3.len dM (by omega);have hA3:=hacc3.arr dM (by omega);have:=h m3 a' c' a4 c4 (k2.trans hacc3.keep) (hA2.keep k2.wf hacc3.keep) (by rw[hln];exact hA3) (fun b hb=>Nat.le_trans hacc.keep.nx (hacc2.new b hb)) (fun b hb=>Nat.le_trans k2.nx (hacc3.new b hb));rw[hln]at this;exact this
noncomputable def pT(l:List pm.Serv)(id:Int):Option (Nat×Int):=match l[pm.at_ l id]? with
 | none=>none
 | some v=>match v.jobs with
  | []=>none
  | j::_=>bif (pm.dD j).2&&(cQ 0 (pm.dD j).1.1&&cT v.sec 0) then some (pm.at_ l id,(pm.dD j).1.1) else none
theorem xR(s:pm.St):pm.asks s=(pm.aQ s).filterMap (pT s.servs):=rfl
theorem kK{α β : Type}(f:α->Option β)(l:List α)(x:α):(l++[x]).filterMap f=l.filterMap f++(match f x with|some y=>[y]|none=>[]):=by
 rw[List.filterMap_append,List.filterMap_cons,List.filterMap_nil];cases f x<;>rfl
def KU(σ : pm.St):Prop:=∀id∈pm.aQ σ,∃x,σ.servs[pm.at_ σ.servs id]? = some x/\x.jobs≠[]
theorem Gk(hw:Wf m)(hσ : RdSt cx m M now a1 n1 a2 n2 a3 n3 c3 σ)(h1:n1<=100000)(h3:n3<=100000)(hM:1<=M)(hM2:M<=1000000)(hr:Rise σ.servs)(hb:KU σ)
  (h:∀m' a c a' c',Keep m m'->Arr encI 1 m' a (pm.asks σ).length ((pm.asks σ).map fun x=>(x.1:Int))->Arr encI 1 m' a' (pm.asks σ).length ((pm.asks σ).map (·.2))->(∀b∈blk a,m.nx<=b)->(∀b∈blk a',m.nx<=b)->Q (.tuple #[.slice a (pm.asks σ).length c,.slice a' (pm.asks σ).length c']) m') :
  ah cx jQ [.agg #[.int .i64 M,.int .i64 now,.slice a1 n1 c1,.slice a2 n2 c2,.slice a3 n3 c3]] m Q:=by
 apply uw;unfold qt;have k0:Keep m (bump m 1):=(Keep.refl hw).bump;refine rz k0.wf (hσ.keep hw k0) h1 h3 hM hM2 fun m1 ar cr ab cb k1 hA _ _ _=>⟨_,_,_,_,_,_,rfl,?_⟩
 have k01:=k0.trans k1;have hrn:(pm.aQ σ).length<=1000000:=by
  have:=iU σ (by rw[<-hσ.em];exact hM);rw[<-hσ.em]at this;omega
 refine Nr (show (pm.aQ σ).length<=4611686018427387904 by omega) (fun k a n c a' n' c' m2=>Acc m1 m2 a n c 1 t_int ((((pm.aQ σ).take k).filterMap (pT σ.servs)).flatMap fun x=>encI (x.1:Int))/\
  Acc m1 m2 a' n' c' 1 t_int ((((pm.aQ σ).take k).filterMap (pT σ.servs)).flatMap fun x=>encI x.2)/\∀b∈blk a,b∉blk a') ⟨Acc.nil (Keep.refl k1.wf) _ _,Acc.nil (Keep.refl k1.wf) _ _,fun b hb=>by cases hb⟩ ?_
 rintro k a n c a' n' c' m2 hk ⟨hp,hq,hd⟩ I w hI;have hln:(((pm.aQ σ).take k).filterMap (pT σ.servs)).length=n:=Acc.len (enc:=fun x:Nat×Int=>encI (x.1:Int)) (s:=1) (fun _=>rfl) (by omega) hp;have hln':(((pm.aQ σ).take k).filterMap (pT σ.servs)).length=n':=Acc.len (enc:=fun x:Nat×Int=>encI x.2) (s:=1) (fun _=>rfl) (by omega) hq;have hle:(((pm.aQ σ).take k).filterMap (pT σ.servs)).length<=k:=Nat.le_trans (List.length_filterMap_le _ _) (by rw[List.length_take];omega);refine dN (fun hlt=>?_) (fun hge=>?_)
 .obtain⟨id,hid⟩:=hA.get hlt;refine hA.open hid fun b o hc=>?_
  have hc1:=hc.keep k1.wf hp.keep;refine⟨id,hc1 0 _ rfl,?_⟩;have k2:=k01.trans hp.keep;obtain⟨x,hx,hxj⟩:=hb id (List.mem_of_getElem? hid);refine Hg hp.keep.wf (hσ.keep hw k2) hr h1 fun m3 k3=>⟨_,_,rfl,?_⟩
  have k23:=k2.trans k3;obtain⟨ss,ha,hs⟩:=(hσ.keep hw k23).servs;obtain⟨sv,hsv,hR⟩:=hs.get' hx;refine ha.open hsv fun b o hc=>?_
  refine⟨_,hc 0 _ rfl,_,hc 1 _ rfl,_,hc 2 _ rfl,_,hc 3 _ rfl,_,hc 4 _ rfl,_,hc 5 _ rfl,_,_,_,hc 6 _ rfl,_,hc 7 _ rfl,_,hc 8 _ rfl,_,hc 9 _ rfl,_,hc 10 _ rfl,?_⟩;obtain⟨js,hja,hjs⟩:=hR.jobs;obtain⟨j,r,hxr⟩:∃j r,x.jobs=j::r:=by
   cases hj:x.jobs with
   | nil=>exact absurd hj hxj
   | cons j r=>exact⟨j,r,rfl⟩
  obtain⟨jv,hjv,hJ⟩:=hjs.get' (i:=0) (b:=j) (by rw[hxr];rfl);refine hja.open (k:=0) hjv fun b o hc=>?_
  refine⟨_,hc 0 _ rfl,_,_,_,hc 1 _ rfl,_,hc 2 _ rfl,_,hc 3 _ rfl,?_⟩;have k4:Keep m3 (bump m3 1):=(Keep.refl k3.wf).bump;refine sy k4.wf (hJ.prog.keep k3.wf k4) fun m5 k5=>⟨_,_,_,rfl,?_⟩
  have ej:(⟨jv.num,j.prog,jv.at_,jv.done⟩:pm.Job)=j:=by rw[hJ.num,hJ.at_,hJ.done]
  rw[ej,hR.sec];have hrest:Keep m2 (bump m5 1):=(k3.trans (k4.trans k5)).bump;have hp':=hp.then hrest;have hq':=hq.then hrest;generalize bump m5 1=m6 at hp' hq' hrest;have ask:pT σ.servs id=bif (pm.dD j).2&&(cQ 0 (pm.dD j).1.1&&cT x.sec 0) then some (pm.at_ σ.servs id,(pm.dD j).1.1) else none:=by
   unfold pT;simp only[hx,hxr]
  refine dW (fun f:Bool->Mem->Prop=>f ((pm.dD j).2&&(cQ 0 (pm.dD j).1.1&&cT x.sec 0)) m6) ?_ ?_
  .refine cO (fun hc=>?_) (fun hc=>?_)
   .rw[hc,cond_true]at ask;rw[cP];obtain⟨m7,p1,p2,p3,p4,p5⟩:=hp'.push (cx:=cx) (t:=de) (vs:=[.int .i64 (pm.at_ σ.servs id:Nat)]) (by kernel_rfl) rfl rfl (by omega);have hq7:Acc m1 m7 a' n' c' 1 t_int ((((pm.aQ σ).take k).filterMap (pT σ.servs)).flatMap fun x=>encI x.2):=hq'.fr p3 p4 fun b hb=>⟨hp'.new b hb,hd b hb⟩
    refine⟨_,_,_,_,p1,?_⟩;rw[cP];obtain⟨m9,q1,q2,q3,q4,q5⟩:=hq7.push (cx:=cx) (t:=de) (vs:=[.int .i64 (pm.dD j).1.1]) (by kernel_rfl) rfl rfl (by omega);have hlt7:=hq'.lt;have hp9:=p2.fr q3 q4 fun b hb=>⟨hq7.new b hb,fun hb2=>by
     simp[blk]at hb2;have:=hlt7 b hb;omega⟩
    refine⟨_,_,_,_,q1,hI _ _ _ _ _ _ _ hlt ⟨?_,?_,fun b hb hb2=>?_⟩⟩
    .rw[gv hid,kK,ask,List.flatMap_append];exact hp9
    .rw[gv hid,kK,ask,List.flatMap_append];exact q2
    .simp[blk]at hb hb2;omega
   .rw[hc,cond_false]at ask;refine hI _ _ _ _ _ _ _ hlt ⟨?_,?_,hd⟩
    .rw[gv hid,kK,ask,List.append_nil];exact hp'
    .rw[gv hid,kK,ask,List.append_nil];exact hq'
  .intro J hJ;refine cO (fun g1=>cO (fun g2=>?_) (fun g2=>?_)) (fun g1=>?_)
   .rw[g1,g2,Bool.true_and,Bool.true_and]at hJ;exact hJ
   .rw[g1,g2,Bool.true_and,Bool.false_and]at hJ;exact hJ
   .rw[g1,Bool.false_and]at hJ;exact hJ
 .have ht:(pm.aQ σ).take k=pm.aQ σ:=List.take_of_length_le (by omega);rw[ht,<-xR]at hp hq hln hln';subst hln;have hn':n'=(pm.asks σ).length:=hln'.symm;subst hn';refine h m2 a c a' c' (k01.trans hp.keep) ?_ ?_ (fun b hb=>Nat.le_trans k01.nx (hp.new b hb)) (fun b hb=>Nat.le_trans k01.nx (hq.new b hb))
  .refine Arr.of_grow dM (by omega) (e:=t_int) (c:=c) ?_;rw[List.flatMap_map];exact hp.grow
  .refine Arr.of_grow dM (by omega) (e:=t_int) (c:=c') ?_;rw[List.flatMap_map];exact hq.grow
end
end Go.Proofs.YthpnifigjfplbaaGreat.vc
namespace Go.Proofs.YthpnifigjfplbaaGreat.vc
open Go Go.AX
abbrev TT:Tys:=⟨eH,ji,da,iT,t_int⟩
section
variable {m:Mem}{Q:Value->Mem->Prop}{M now:Int}{a a1 a2 a3:Option Addr}{n c n1 c1 n2 c2 n3 c3:Nat}{σ : pm.St}
theorem Cl{l:List SV}(hw:Wf m)(hl:Arr encS 11 m a n l)(hn:n<=1000000)(h:∀m' a' c',Keep m m'->OwnSl m m' eH a' n c' (l.flatMap encS)->Q (.slice a' n c') m'):ah cx fR [.slice a n c] m Q:=by
 apply oB;unfold kD;exact rk (by kernel_rfl) jZ Il hw hl hn h
theorem IT{l:List LV}(hw:Wf m)(hl:Arr encL 4 m a n l)(hn:n<=1000000)(h:∀m' a' c',Keep m m'->OwnSl m m' ji a' n c' (l.flatMap encL)->Q (.slice a' n c') m'):ah cx gV [.slice a n c] m Q:=by
 apply oC;unfold kE;exact rk (by kernel_rfl) nL Io hw hl hn h
theorem IU{l:List pm.Back}(hw:Wf m)(hl:Arr encB 2 m a n l)(hn:n<=1000000)(h:∀m' a' c',Keep m m'->OwnSl m m' da a' n c' (l.flatMap encB)->Q (.slice a' n c') m'):ah cx gW [.slice a n c] m Q:=by
 apply oD;unfold kF;exact rk (by kernel_rfl) fA wU hw hl hn h
theorem Cm{l:List JV}(hw:Wf m)(hl:Arr encJ 4 m a n l)(hn:n<=1000000)(h:∀m' a' c',Keep m m'->OwnSl m m' iT a' n c' (l.flatMap encJ)->Q (.slice a' n c') m'):ah cx gx [.slice a n c] m Q:=by
 apply pF;unfold lW;exact rk (by kernel_rfl) fh Im hw hl hn h
theorem Cn{l:List Int}(hw:Wf m)(hl:Arr encI 1 m a n l)(hn:n<=1000000)(h:∀m' a' c',Keep m m'->OwnSl m m' t_int a' n c' (l.flatMap encI)->Q (.slice a' n c') m'):ah cx iy [.slice a n c] m Q:=by
 apply sw;unfold oz;exact rk (by kernel_rfl) dM B0 hw hl hn h
theorem G9{α β : Type}{r:α->β->Prop}(h:∀x,∃y,r x y):∃f:α->β,∀x,r x (f x):=Classical.axiomOfChoice h
theorem KC{m1 m2 m3:Mem}{b1 b2 b3:Option Addr}{d1 d2 d3:Nat}{ss:List SV}{ls:List LV}(hw:Wf m)(hs:All2 (RdServ m) ss σ.servs)(hl:All2 (RdLock m) ls σ.sems)(e1:ss.length=n1)(e2:ls.length=n2)(e3:σ.backs.length=n3)
  (k1:Keep m m1)(k2:Keep m1 m2)(k3:Keep m2 m3)(o1:OwnSl m m1 eH b1 n1 d1 (ss.flatMap encS))(o2:OwnSl m1 m2 ji b2 n2 d2 (ls.flatMap encL))(o3:OwnSl m2 m3 da b3 n3 d3 (σ.backs.flatMap encB)) :
  ∃lam js qs,Ow TT (fun _=>.rd) (fun _=>.rd) m m3 lam b1 n1 d1 b2 n2 d2 b3 n3 d3 ss js ls qs σ:=by
 classical
 have kk:Keep m m3:=(k1.trans k2).trans k3;have w1:=k1.wf;have w2:=k2.wf;have w3:=k3.wf;have x1:=k1.nx;have x2:=k2.nx;have x3:=k3.nx;have l1:=o1.lt w1;have l2:=o2.lt w2;have l3:=o3.lt w3;have p1:=o1.blk;have p2:=o2.blk;have p3:=o3.blk;obtain⟨js,hjs⟩:=G9 (α:=Nat) (β:=List JV) (r:=fun i l=>∀v x,ss[i]? = some v->σ.servs[i]? = some x->Arr encJ 4 m v.ja v.jn l/\All2 (RdJob m) l x.jobs) (fun i=>by
  cases hv:ss[i]? with
  | none=>exact⟨[],fun v x h=>by cases h⟩
  | some v=>
   obtain⟨x,hx,hR⟩:=hs.get hv;obtain⟨l,q1,q2⟩:=hR.jobs;refine⟨l,fun v' x' h h'=>?_⟩;cases h;rw[hx]at h';cases h';exact⟨q1,q2⟩)
 let lam:Nat->Lb:=fun b=>if b<m.nx then .pr else if b∈blk b1 then .sv else if b∈blk b2 then .lk else if b∈blk b3 then .bk else .no
 have lpr:∀b,b<m.nx->lam b = .pr:=fun b hb=>by show (if _ then _ else _)=_;rw[if_pos hb]
 refine⟨lam,js,fun k=>match σ.sems[k]? with|some l=>l.queue|none=>[],?_⟩;refine⟨kk,hw.1,fun b hb=>?_,fun b hb=>?_,(o1.keep w1 (k2.trans k3)).csl _,fun b hb=>?_,e1,by rw[<-hs.len,e1],((o2.keep w2 k3).old x1).csl _,fun b hb=>?_,e2,by rw[<-hl.len,e2],(o3.old (by omega)).csl _,fun b hb=>?_,e3,fun i v hv=>?_,fun k v hv=>?_,fun i v x hv hx=>?_,fun k v l hv hx=>?_⟩
 .have hb:(if b<m.nx then Lb.pr else if b∈blk b1 then .sv else if b∈blk b2 then .lk else if b∈blk b3 then .bk else .no)≠.no:=hb;by_cases q1:b<m.nx
  .omega
  .rw[if_neg q1]at hb;by_cases q2:b∈blk b1
   .have:=l1 b q2;omega
   .rw[if_neg q2]at hb;by_cases q3:b∈blk b2
    .have:=l2 b q3;omega
    .rw[if_neg q3]at hb;by_cases q4:b∈blk b3
     .have:=l3 b q4;omega
     .rw[if_neg q4]at hb;exact absurd rfl hb
 .by_cases q1:b<m.nx
  .exact absurd (lpr b q1) hb
  .omega
 .show (if _ then _ else _)=_;have:=p1 b hb;rw[if_neg (by omega),if_pos hb]
 .show (if _ then _ else _)=_;have:=p2 b hb;rw[if_neg (by omega),if_neg (fun h=>by have:=l1 b h;omega),if_pos hb]
 .show (if _ then _ else _)=_;have:=p3 b hb;rw[if_neg (by omega),if_neg (fun h=>by have:=l1 b h;omega),if_neg (fun h=>by have:=l2 b h;omega),if_pos hb]
 .obtain⟨x,hx,hR⟩:=hs.get hv;obtain⟨q1,q2⟩:=hjs i v x hv hx;exact⟨q1.keep hw kk,fun hne b hb=>lpr b (q1.blk_lt fh (by omega) hw hne b hb)⟩
 .obtain⟨l,hl',hR⟩:=hl.get hv;simp only[hl'];exact⟨hR.queue.keep hw kk,fun hne b hb=>lpr b (hR.queue.blk_lt dM (by omega) hw hne b hb)⟩
 .obtain⟨q1,q2⟩:=hjs i v x hv hx;obtain⟨x',hx',hR⟩:=hs.get hv;rw[hx]at hx';cases hx';exact⟨⟨hR.id,hR.s,hR.sec,hR.held,hR.num,hR.ran⟩,q2.imp fun jv j r=>⟨r.num,r.at_,r.done,r.prog.keep hw kk,fun hne b hb=>lpr b (r.prog.blk_lt J4 (by omega) hw hne b hb)⟩⟩
 .obtain⟨l',hl',hR⟩:=hl.get hv;rw[hx]at hl';cases hl';simp only[hx];exact⟨⟨hR.most,hR.holder,hR.dead⟩,trivial⟩
theorem EC(hw:Wf m)(hσ : RdSt cx m M now a1 n1 a2 n2 a3 n3 c3 σ)(hz:Small σ)
  (h:∀m' lam b1 d1 b2 d2 b3 d3 ss js ls qs,Ow TT (fun _=>.own true) (fun _=>.own true) m m' lam b1 n1 d1 b2 n2 d2 b3 n3 d3 ss js ls qs σ->Q (.agg #[.int .i64 M,.int .i64 now,.slice b1 n1 d1,.slice b2 n2 d2,.slice b3 n3 d3]) m') :
  ah cx jz [.agg #[.int .i64 M,.int .i64 now,.slice a1 n1 c1,.slice a2 n2 c2,.slice a3 n3 c3]] m Q:=by
 apply tM;unfold pk;have hl1:=hσ.len1;have hl2:=hσ.len2;have hl3:=hσ.len3;have z1:=hz.servs;have z2:=hz.sems;have z3:=hz.backs;have k0:Keep m (bump m 17):=(Keep.refl hw).bump;have nx0:(bump m 17).nx=m.nx+17:=rfl;have hf0:(bump m 2).nx<=(bump m 17).nx:=by simp
 generalize bump m 17=m0 at k0 nx0 hf0;generalize (bump m 2).nx=f0 at hf0;have hw0:Wf (setFl m0 f0):=k0.wf.setFl hf0;obtain⟨ss,ha1,hs1⟩:=hσ.servs;obtain⟨ls,ha2,hs2⟩:=hσ.sems;have ha10:Arr encS 11 (setFl m0 f0) a1 n1 ss:=(ha1.keep hw k0).hp rfl;refine Cl hw0 ha10 (by omega) fun m1 b1 d1 k1 o1=>⟨_,_,_,rfl,?_⟩
 have k1':Keep m (setFl m1 m0.fl):=Keep.unset' k0 k1;have o1':OwnSl m (setFl m1 m0.fl) eH b1 n1 d1 (ss.flatMap encS):=o1.hp k0.nx rfl;generalize setFl m1 m0.fl=m1' at k1' o1';have hw1:Wf (setFl m1' m1'.nx):=k1'.wf.setFl (Nat.le_refl _);have ha21:Arr encL 4 (setFl m1' m1'.nx) a2 n2 ls:=(ha2.keep hw k1').hp rfl;refine IT hw1 ha21 (by omega) fun m2 b2 d2 k2 o2=>⟨_,_,_,rfl,?_⟩
 have k2':Keep m1' (setFl m2 m1'.fl):=Keep.unset k1'.wf k2;have o2':OwnSl m1' (setFl m2 m1'.fl) ji b2 n2 d2 (ls.flatMap encL):=o2.hp (Nat.le_refl _) rfl;generalize setFl m2 m1'.fl=m2' at k2' o2';have ha32:=hσ.backs.keep hw (k1'.trans k2');refine IU k2'.wf ha32 (by omega) fun m3 b3 d3 k3 o3=>⟨_,_,_,rfl,?_⟩
 obtain⟨lam,js,qs,hO⟩:=KC hw hs1 hs2 ha1.1 ha2.1 hl3 k1' k2' k3 o1' o2' o3;refine tq (show n1<=4611686018427387904 by omega) (fun k m4=>∃lam wj ss js,Ow TT wj (fun _=>.rd) m m4 lam b1 n1 d1 b2 n2 d2 b3 n3 d3 ss js ls qs σ/\∀i,i<k->wj i = .own true) ⟨lam,_,ss,js,hO,fun i hi=>by omega⟩ ?_;rintro k m4 hk ⟨lam,wj,ss,js,hO,hdone⟩ I w hI;refine dN (fun hlt=>?_) (fun hge=>?_)
 .obtain⟨v,hv⟩:∃v,ss[k]? = some v:=⟨_,List.getElem?_eq_getElem (by rw[hO.s1n];exact hlt)⟩;obtain⟨x,hx⟩:∃x,σ.servs[k]? = some x:=⟨_,List.getElem?_eq_getElem (by rw[hO.s1d];exact hlt)⟩;obtain⟨b,o,rfl,hlb,hc⟩:=hO.atS hv;refine⟨⟨by omega,by omega⟩,?_⟩;rw[cS];refine⟨v.ja,v.jn,v.jc,hc 6 _ rfl,?_⟩;have k5:Keep m4 (bump m4 13):=(Keep.refl hO.keep.wf).bump;have hwf:Wf (setFl (bump m4 13) m4.nx):=k5.wf.setFl (by simp);have hjarr:=(hO.jb k v hv).arr fh;have hd:=hO.ds k v x hv hx;have hjl:v.jn<=1000000:=by
   have:=hz.jobs x (List.mem_of_getElem? hx);rw[<-hd.2.len,hjarr.1]at this;omega
  refine Cm hwf ((hjarr.keep hO.keep.wf k5).hp rfl) hjl fun m5 a' c' k6 ho=>⟨_,_,_,rfl,⟨⟨by omega,by omega⟩,?_⟩⟩
  rw[cS];have k6':Keep m4 (setFl m5 (bump m4 13).fl):=Keep.unset' k5 k6;have ho':OwnSl m4 (setFl m5 (bump m4 13).fl) iT a' v.jn c' ((js k).flatMap encJ):=ho.hp k5.nx rfl;generalize setFl m5 (bump m4 13).fl=m6 at k6' ho';obtain⟨lam',hO2,hlab,hold⟩:=hO.ownSl k6' ho' (Nat.le_refl _) (.jb k);have hjs':(js k).length=v.jn:=hjarr.1;obtain⟨g1,g2⟩:=hO2.setS (κ:=.own true) (js':=js k) (x':=x) (v':={ v with ja:=a',jc:=c' }) (k:=6) (vs:=[.slice a' v.jn c']) hv rfl (by simp) rfl ⟨(ho'.old hO.keep.nx).csl _,hlab,hjs'⟩ (by
   obtain⟨q1,q2⟩:=hO2.ds k v x hv hx;exact⟨⟨q1.id,q1.s,q1.sec,q1.held,q1.num,q1.ran⟩,q2⟩)
  refine⟨g1,?_⟩;rw[cP];rw[set_self hx]at g2;refine hI _ hlt ⟨lam',_,_,_,g2,fun i hi=>?_⟩;by_cases e:i=k
  .subst e;exact fB ..
  .rw[fo e];exact hdone i (by omega)
 .have hO1:=hO.kd (wj':=fun _=>.own true) (wq':=fun _=>.rd) (fun i hi=>hdone i (by omega)) (fun _ _=>rfl);clear hI I w;refine tq (show n2<=4611686018427387904 by omega) (fun k m4=>∃lam wq ls qs,Ow TT (fun _=>.own true) wq m m4 lam b1 n1 d1 b2 n2 d2 b3 n3 d3 ss js ls qs σ/\∀i,i<k->wq i = .own true) ⟨lam,_,ls,qs,hO1,fun i hi=>by omega⟩ ?_;rintro k m4 hk ⟨lam,wq,ls,qs,hO,hdone⟩ I w hI;refine dN (fun hlt=>?_) (fun hge=>?_)
  .obtain⟨v,hv⟩:∃v,ls[k]? = some v:=⟨_,List.getElem?_eq_getElem (by rw[hO.s2n];exact hlt)⟩;obtain⟨x,hx⟩:∃x,σ.sems[k]? = some x:=⟨_,List.getElem?_eq_getElem (by rw[hO.s2d];exact hlt)⟩;obtain⟨b,o,rfl,hlb,hc⟩:=hO.atL hv;refine⟨⟨by omega,by omega⟩,?_⟩;rw[cS];refine⟨v.qa,v.qn,v.qc,hc 2 _ rfl,?_⟩;have k5:Keep m4 (bump m4 13):=(Keep.refl hO.keep.wf).bump;have hwf:Wf (setFl (bump m4 13) m4.nx):=k5.wf.setFl (by simp);have hjarr:=(hO.qu k v hv).arr dM;have hd:=hO.dl k v x hv hx;have hjl:v.qn<=1000000:=by
    have:=hz.queue x (List.mem_of_getElem? hx);rw[<-hd.2,hjarr.1]at this;omega
   refine Cn hwf ((hjarr.keep hO.keep.wf k5).hp rfl) hjl fun m5 a' c' k6 ho=>⟨_,_,_,rfl,⟨⟨by omega,by omega⟩,?_⟩⟩
   rw[cS];have k6':Keep m4 (setFl m5 (bump m4 13).fl):=Keep.unset' k5 k6;have ho':OwnSl m4 (setFl m5 (bump m4 13).fl) t_int a' v.qn c' ((qs k).flatMap encI):=ho.hp k5.nx rfl;generalize setFl m5 (bump m4 13).fl=m6 at k6' ho';obtain⟨lam',hO2,hlab,hold⟩:=hO.ownSl k6' ho' (Nat.le_refl _) (.qu k);obtain⟨g1,g2⟩:=hO2.setL (κ:=.own true) (qs':=qs k) (x':=x) (v':={ v with qa:=a',qc:=c' }) (k:=2) (vs:=[.slice a' v.qn c']) hv rfl (by simp) rfl ⟨(ho'.old hO.keep.nx).csl _,hlab,hjarr.1⟩ (by
    obtain⟨q1,q2⟩:=hO2.dl k v x hv hx;exact⟨⟨q1.most,q1.holder,q1.dead⟩,q2⟩)
   refine⟨g1,?_⟩;rw[cP];rw[set_self hx]at g2;refine hI _ hlt ⟨lam',_,_,_,g2,fun i hi=>?_⟩;by_cases e:i=k
   .subst e;exact fB ..
   .rw[fo e];exact hdone i (by omega)
  .exact h _ _ _ _ _ _ _ _ _ _ _ _ (hO.kd (wj':=fun _=>.own true) (wq':=fun _=>.own true) (fun _ _=>rfl) (fun i hi=>hdone i (by omega)))
end
end Go.Proofs.YthpnifigjfplbaaGreat.vc
namespace Go.Proofs.YthpnifigjfplbaaGreat.vc
open Go Go.AX
def Lr(σ : pm.St):Prop:=∀p∈pm.asks σ,1<=p.2/\p.2<=(σ.sems.length:Int)
theorem Nm{σ : pm.St}{p:Nat×Int}(h:p∈pm.asks σ):∃x,σ.servs[p.1]? = some x:=by
 rw[xR]at h;obtain⟨id,_,h2⟩:=List.mem_filterMap.1 h;unfold pT at h2;split at h2
 .cases h2
 .rename_i v hv;split at h2
  .cases h2
  .cases hc:((pm.dD _).2&&(cQ 0 (pm.dD _).1.1&&cT v.sec 0))with
   | true=>rw[hc]at h2;cases h2;exact⟨v,hv⟩
   | false=>rw[hc]at h2;cases h2
section
variable {wj wq:Nat->Kd}{m0 m:Mem}{lam:Nat->Lb}{Q:Value->Mem->Prop}{M now:Int}{a1 a2 a3:Option Addr}{n1 c1 n2 c2 n3 c3:Nat}{ss:List SV}{js:Nat->List JV}{ls:List LV}{qs:Nat->List Int}{σ : pm.St}
theorem I8(hO:Ow TT wj wq m0 m lam a1 n1 c1 a2 n2 c2 a3 n3 c3 ss js ls qs σ)(eM:M = σ.m)(en:now = σ.now)(hz:Small σ)(hM:1<=M)(hM2:M<=64)(hr:Rise σ.servs)(hb:KU σ)(ha:Lr σ)
  (h0:∀m',pm.refuse σ = none->Keep m m'->Q (.tuple #[.slice none 0 0,.bool false]) m')
  (h1:∀m' b v e ss' js' σ',pm.refuse σ = some (σ',e)->Ow TT wj wq m0 m' lam a1 n1 c1 a2 n2 c2 a3 n3 c3 ss' js' ls qs σ'->(∃S,Fr m m' S/\∀b∈S,lam b = .sv)->m.nx<=b->b<m'.nx->Row m' b (encEv e) v false->Q (.tuple #[.slice (some ⟨b,0,none⟩) 1 1,.bool true]) m') :
  ah cx gJ [.agg #[.int .i64 M,.int .i64 now,.slice a1 n1 c1,.slice a2 n2 c2,.slice a3 n3 c3]] m Q:=by
 apply sM;unfold oZ;have hw:=hO.keep.wf;have k0:Keep m (bump m 1):=(Keep.refl hw).bump;have hz1:=hz.servs;have hz2:=hz.sems;have hz3:=hz.backs;have l1:=hO.s1d;have l2:=hO.s2d;have l3:=hO.s3n;have hRd:=(hO.then k0).reads (cx:=cx) eM en jx;refine Gk k0.wf hRd (by omega) (by omega) hM (by omega) hr hb fun m1 ap cp aq cq k1 hP hQ np nq=>⟨_,_,_,_,_,_,rfl,?_⟩
 have hP':=hP;have k01:=k0.trans k1;have hlen:(pm.asks σ).length<=1000000:=by
  rw[xR];refine Nat.le_trans (List.length_filterMap_le _ _) ?_;have:=iU σ (by rw[<-eM];exact hM);rw[<-eM]at this;omega
 refine tq (show (pm.asks σ).length<=4611686018427387904 by omega) (fun k m2=>Keep m1 m2/\pm.lg σ (pm.asks σ)=pm.lg σ ((pm.asks σ).drop k)) ⟨Keep.refl k1.wf,rfl⟩ ?_;rintro k m2 hk ⟨k2,hrf⟩ I w hI;refine dN (fun hlt=>?_) (fun hge=>?_)
 .obtain⟨p,hp⟩:∃p,(pm.asks σ)[k]? = some p:=⟨_,List.getElem?_eq_getElem hlt⟩;have hmem:=List.mem_of_getElem? hp;obtain⟨x,hx⟩:=Nm hmem;obtain⟨hq1,hq2⟩:=ha p hmem;obtain⟨i,q⟩:=p;simp only at hx hq1 hq2;obtain⟨j,rfl⟩:∃j:Nat,q=(j:Int)+1:=⟨(q-1).toNat,by omega⟩;have hjl:j < σ.sems.length:=by omega
  obtain⟨l,hl⟩:∃l,σ.sems[j]? = some l:=⟨_,List.getElem?_eq_getElem hjl⟩;have hi:=(List.getElem?_eq_some_iff.1 hx).1;obtain⟨v,hv⟩:∃v,ss[i]? = some v:=⟨_,List.getElem?_eq_getElem (by rw[hO.s1n];omega)⟩;obtain⟨u,hu⟩:∃u,ls[j]? = some u:=⟨_,List.getElem?_eq_getElem (by rw[hO.s2n];omega)⟩;have hdrop:(pm.asks σ).drop k=(i,(j:Int)+1)::(pm.asks σ).drop (k+1):=by
   have:=List.drop_eq_getElem_cons hlt;rw[this];congr 1;exact Option.some.inj ((List.getElem?_eq_getElem hlt).symm.trans hp)
  have ej:cZ .i64 ((j:Int)+1) 1=(j:Int):=by rw[eF (by omega) (by omega)];omega
  have hp1:((pm.asks σ).map fun x=>(x.1:Int))[k]? = some (i:Int):=by rw[List.getElem?_map,hp];rfl
  have hp2:((pm.asks σ).map (·.2))[k]? = some ((j:Int)+1):=by rw[List.getElem?_map,hp];rfl
  have k3:Keep m2 (bump m2 27):=(Keep.refl k2.wf).bump;have kA:=(k01.trans k2).trans k3;have hO3:=hO.then kA;obtain⟨b1,o1,rfl,hlb1,hc1⟩:=hO3.atS hv;obtain⟨b2,o2,rfl,hlb2,hc2⟩:=hO3.atL hu;refine hP.open hp1 fun b o hc=>?_
  refine⟨_,(hc.keep k1.wf k2) 0 _ rfl,⟨⟨by omega,by omega⟩,?_⟩⟩;rw[cS];refine hQ.open hp2 fun bq oq hcq=>?_
  refine⟨_,(hcq.keep k1.wf (k2.trans k3)) 0 _ rfl,?_⟩;rw[ej];refine⟨⟨by omega,by omega⟩,?_⟩;rw[cS];obtain⟨dv,dj⟩:=hO.ds i v x hv hx;obtain⟨dl,dq⟩:=hO.dl j u l hu hl;refine⟨_,hc2 0 _ rfl,_,hc1 3 _ rfl,_,hc1 4 _ rfl,?_⟩;refine G6 k3.wf fun m3 k4=>⟨_,rfl,?_⟩
  have hO4:=hO3.then k4;obtain⟨b1',o1',e1,_,hc1'⟩:=hO4.atS hv;cases e1;rw[dl.most,dv.s,eM,en];have step:pm.lg σ ((pm.asks σ).drop k)=bif pm.og σ.m l.most x.s.bud (cZ .i64 x.s.due σ.now) then pm.lg σ ((pm.asks σ).drop (k+1)) else some ({ σ with servs:=σ.servs.set i { x with s:=(pm.eI x.s).1 } },pm.dU σ 8 x.id ((j:Int)+1)):=by
   rw[hdrop,pm.lg];simp only[hx,show ((j:Int)+1-1).toNat=j by omega,hl]
  refine fm (fun hg=>?_) (fun hg=>?_)
  .refine⟨_,hc1' 1 _ rfl,_,hc1' 2 _ rfl,_,hc1' 3 _ rfl,_,hc1' 4 _ rfl,_,hc1' 5 _ rfl,?_⟩;refine KA k4.wf fun m4 k5=>⟨_,_,_,_,_,_,rfl,?_⟩
   have hO5:=hO4.then k5;have e1:(⟨v.s.q,v.s.p,v.s.bud,v.s.due,v.s.mode⟩:pm.Srv)=x.s:=dv.s;rw[e1];obtain⟨g1,g2⟩:=hO5.setS (κ:=wj i) (js':=js i) (x':={ x with s:=(pm.eI x.s).1 }) (v':={ v with s:=(pm.eI x.s).1 }) (k:=1) (vs:=[.int .i64 (pm.eI x.s).1.q,.int .i64 (pm.eI x.s).1.p,.int .i64 (pm.eI x.s).1.bud,.int .i64 (pm.eI x.s).1.due,.int .i64 (pm.eI x.s).1.mode]) hv rfl (by simp) rfl (hO5.jb i v hv) (by
    obtain⟨q1,q2⟩:=hO5.ds i v x hv hx;exact⟨⟨q1.id,rfl,q1.sec,q1.held,q1.num,q1.ran⟩,q2⟩)
   refine⟨g1,?_⟩;rw[cP];have hupj:jB wj i (wj i)=wj:=by funext z;unfold jB;split<;>simp_all
   have hupq:jB js i (js i)=js:=by funext z;unfold jB;split<;>simp_all
   rw[hupj,hupq]at g2;have fW:Fr m4 (wr m4 b1 (o1+Int.toNat (i:Int)*11+1) [.int .i64 (pm.eI x.s).1.q,.int .i64 (pm.eI x.s).1.p,.int .i64 (pm.eI x.s).1.bud,.int .i64 (pm.eI x.s).1.due,.int .i64 (pm.eI x.s).1.mode]) [b1]:=(Fr.refl m4 _).wr (.inl (by simp));generalize wr m4 b1 (o1+Int.toNat (i:Int)*11+1) [.int .i64 (pm.eI x.s).1.q,.int .i64 (pm.eI x.s).1.p,.int .i64 (pm.eI x.s).1.bud,.int .i64 (pm.eI x.s).1.due,.int .i64 (pm.eI x.s).1.mode]=m5 at g2 fW;have k6:Keep m5 (bump m5 13):=(Keep.refl g2.keep.wf).bump;have hO6:=g2.then k6;have hsv:(ss.set i { v with s:=(pm.eI x.s).1 })[i]? = some { v with s:=(pm.eI x.s).1 }:=by
    rw[List.getElem?_set];simp[(List.getElem?_eq_some_iff.1 hv).1]
   obtain⟨b1',o1',e1',_,hc6⟩:=hO6.atS hsv;cases e1';have hltb:b1<m.nx:=hO.lab b1 (by rw[hlb1];simp);have k14:Keep m1 m4:=(k2.trans k3).trans (k4.trans k5);have hQ5:Arr encI 1 (bump m5 13) aq (pm.asks σ).length ((pm.asks σ).map (·.2)):=((hQ.keep k1.wf k14).fr k14.wf fW (fun b hb hs=>by
    have h1:=nq b hb;have h2:(bump m 1).nx=m.nx+1:=rfl;rw[List.mem_singleton.1 hs]at h1;omega)).keep g2.keep.wf k6
   refine⟨_,hc6 0 _ rfl,?_⟩;refine hQ5.open hp2 fun bq' oq' hcq'=>⟨_,hcq' 0 _ rfl,?_⟩
   refine zu k6.wf fun m6 k7=>⟨_,_,_,_,rfl,?_⟩
   rw[cP];have hO7:=hO6.then k7;have x7:=k7.nx;have x6:(bump m5 13).nx=m5.nx+13:=rfl;have hno:lam (m5.nx+10) = .no:=by
    cases hl:lam (m5.nx+10)with
    | no=>rfl
    | _=>have:=g2.lab (m5.nx+10) (by rw[hl];simp);omega
   have fr0:Fr m m6 [b1]:=((((k01.trans k14).fr [b1]).trans fW (fun b hb=>.inl hb)).trans (k6.fr []) (fun b hb=>by cases hb)).trans (k7.fr []) (fun b hb=>by cases hb);have hmn:m.nx<=m5.nx+10:=by
    have:=(k01.trans k14).nx;have:=fW.nx;omega
   refine h1 _ (m5.nx+10) t_model_Event _ _ _ _ (by unfold pm.refuse;rw[hrf,step,hg];rfl) (hO7.fr (S:=[m5.nx+10]) (k7.wf.addO (by omega)) ((Fr.refl m6 _).addO (.inl (by simp))) (fun b hb=>by rw[List.mem_singleton.1 hb];exact hno)) ⟨[b1],fr0.addO (.inr hmn),fun b hb=>by rw[List.mem_singleton.1 hb];exact hlb1⟩ hmn (by simp;omega) ?_;refine Row.of_row ?_;rw[iC,if_pos rfl,<-dv.id];rfl
  .refine hI _ hlt ⟨k2.trans (k3.trans k4),?_⟩;rw[hrf,step,hg];rfl
 .refine h0 m2 ?_ (k01.trans k2);unfold pm.refuse;rw[hrf,List.drop_eq_nil_of_le (by omega)];rfl
end
end Go.Proofs.YthpnifigjfplbaaGreat.vc
namespace Go.Proofs.YthpnifigjfplbaaGreat.vc
open Go Go.AX
structure EvS (m mm:Mem)(a:Option Addr)(n c:Nat)(E:List pm.Ev):Prop where
 grow:Grow mm a n c 4 t_model_Event (E.flatMap encEv)
 new:∀b∈blk a,m.nx<=b
theorem EvS.nil(m mm:Mem):EvS m mm none 0 0 []:=⟨Grow.nil _ _ _,fun b hb=>by cases hb⟩
theorem EvS.arr{m mm:Mem}{a:Option Addr}{n c:Nat}{E:List pm.Ev}(h:EvS m mm a n c E):Arr encEv 4 mm a n E:=Arr.of_grow ft (by omega) h.grow
theorem EvS.fr{m mm m2:Mem}{S:List Nat}{a:Option Addr}{n c:Nat}{E:List pm.Ev}(h:EvS m mm a n c E)(hw:Wf mm)(f:Fr mm m2 S)(hS:∀b∈blk a,b∉S):EvS m m2 a n c E:=⟨h.grow.fr f hw hS,h.new⟩
theorem EvS.then{m mm m2:Mem}{a:Option Addr}{n c:Nat}{E:List pm.Ev}(h:EvS m mm a n c E)(hw:Wf mm)(k:Keep mm m2):EvS m m2 a n c E:=h.fr hw (k.fr []) (fun _ _ h=>by cases h)
section
variable {wj wq:Nat->Kd}{m0 m mm:Mem}{lam:Nat->Lb}{M now:Int}{a a1 a2 a3:Option Addr}{n c n1 c1 n2 c2 n3 c3:Nat}{ss:List SV}{js:Nat->List JV}{ls:List LV}{qs:Nat->List Int}{σ : pm.St}{E:List pm.Ev}
theorem EI{lam:Nat->Lb}{m:Mem}(hm:∀b,lam b≠.no->b<m.nx){b:Nat}(hb:m.nx<=b):lam b = .no:=by
 cases hl:lam b with
 | no=>rfl
 | _=>have:=hm b (by rw[hl];simp);omega
theorem rs{k d:Nat}{kind who num:Int}{K:Option Addr->Nat->Nat->Mem->Prop}(hO:Ow TT wj wq m0 mm lam a1 n1 c1 a2 n2 c2 a3 n3 c3 ss js ls qs σ)(hm:∀b,lam b≠.no->b<m.nx)(hmm:m.nx<=mm.nx)(hE:EvS m mm a n c E)(hn:n<=100000)(hd:d<k)
  (hK:∀m2,Ow TT wj wq m0 m2 lam a1 n1 c1 a2 n2 c2 a3 n3 c3 ss js ls qs σ->EvS m m2 (some ⟨m2.nx-1,0,none⟩) (n+1) (n+1) (E++[⟨now,kind,who,num⟩])->Fr mm m2 (blk a)->mm.nx<m2.nx->K (some ⟨m2.nx-1,0,none⟩) (n+1) (n+1) m2) :
  ah cx dH [.agg #[.int .i64 M,.int .i64 now,.slice a1 n1 c1,.slice a2 n2 c2,.slice a3 n3 c3],.int .i64 kind,.int .i64 who,.int .i64 num] (bump mm k) fun r m9=>
   ∃(x1:Int),(∃(x2:Int),(∃(x3:Int),(∃(x4:Int),r=(.agg #[.int .i64 x1,.int .i64 x2,.int .i64 x3,.int .i64 x4])/\(∃(a84:Option Addr)(n84 c84:Nat)(m10:Mem),bQ cx (addO m9 (mm.nx+d) (row [.int .i64 x1,.int .i64 x2,.int .i64 x3,.int .i64 x4] t_model_Event false)) [bm,bm] [.slice a n c,.slice (some ⟨mm.nx+d,0,none⟩) 1 1]=some (.slice a84 n84 c84,m10)/\(cY m10 fun m11=>K a84 n84 c84 m11))))):=by
 have hw:=hO.keep.wf;have k10:Keep mm (bump mm k):=(Keep.refl hw).bump;have x10:(bump mm k).nx=mm.nx+k:=rfl;refine zu k10.wf fun m9 k11=>⟨_,_,_,_,rfl,?_⟩
 have x11:=k11.nx;have k12:Keep mm (addO m9 (mm.nx+d) (row [.int .i64 now,.int .i64 kind,.int .i64 who,.int .i64 num] t_model_Event false)):=(k10.trans k11).addO (by omega) (by omega);have hR:Row (addO m9 (mm.nx+d) (row [.int .i64 now,.int .i64 kind,.int .i64 who,.int .i64 num] t_model_Event false)) (mm.nx+d) [.int .i64 now,.int .i64 kind,.int .i64 who,.int .i64 num] t_model_Event false:=Row.of_row (by rw[iC,if_pos rfl]);generalize addO m9 (mm.nx+d) (row [.int .i64 now,.int .i64 kind,.int .i64 who,.int .i64 num] t_model_Event false)=m10 at k12 hR;have hO10:=hO.then k12;have hE10:=hE.then hw k12;obtain⟨m11,q1,q2,q3,q4,q5⟩:=pY (cx:=cx) (t:=bm) (by kernel_rfl) k12.wf hE10.grow (hR.first1 rfl) rfl rfl (by omega);refine⟨_,_,_,_,q1,?_⟩;rw[cP];have hx:m10.nx=m11.nx-1:=by omega
 have hgl:=hE10.grow.1;have x12:=k12.nx;rw[hx]at q5 ⊢;refine hK m11 (hO10.fr q2 q3 fun b hb=>EI hm (hE.new b hb)) ⟨⟨?_,.inr ⟨_,rfl,rfl,?_,?_⟩⟩,fun b hb=>?_⟩ ((k12.fr (blk a)).trans q3 (fun b hb=>.inl hb)) (by omega)
 .rw[List.flatMap_append,List.length_append,hgl];simp[ft,Nat.succ_mul]
 .have:=q3.fl;have:=k12.fl;have:=hw.1;omega
 .rw[List.flatMap_append];exact q5
 .simp[blk]at hb;omega
end
end Go.Proofs.YthpnifigjfplbaaGreat.vc
namespace Go.Proofs.YthpnifigjfplbaaGreat.vc
open Go Go.AX
theorem fE{α : Type}(f:Nat->α)(i:Nat):jB f i (f i)=f:=by
 funext z;unfold jB;split
 .rename_i e;rw[e]
 .rfl
theorem ec{α : Type}{l:List α}{i:Nat}{x y:α}(h:l[i]? = some x):(l.set i y)[i]? = some y:=by
 rw[List.getElem?_set];simp[(List.getElem?_eq_some_iff.1 h).1]
def vD(w w':Nat->Kd):Prop:=∀k,(∃b,w k = .own b)->∃b,w' k = .own b
theorem vD.refl(w:Nat->Kd):vD w w:=fun _ h=>h
theorem vD.up(w:Nat->Kd)(i:Nat)(b:Bool):vD w (jB w i (.own b)):=fun k h=>by
 by_cases e:k=i
 .subst e;exact⟨b,fB ..⟩
 .rw[fo e];exact h
section
variable {wj wq:Nat->Kd}{m0 m:Mem}{lam:Nat->Lb}{Q:Value->Mem->Prop}{M now:Int}{a1 a2 a3:Option Addr}{n1 c1 n2 c2 n3 c3:Nat}{ss:List SV}{js:Nat->List JV}{ls:List LV}{qs:Nat->List Int}{σ : pm.St}
theorem BC:cx.un.get de=some (.slice t_int):=by kernel_rfl
theorem zt:dE cx t_int=some 1:=by kernel_rfl
theorem Ge{j:Nat}{thrown:Bool}{l:pm.Lock}{w:Bool}(hO:Ow TT wj wq m0 m lam a1 n1 c1 a2 n2 c2 a3 n3 c3 ss js ls qs σ)(eM:M = σ.m)(en:now = σ.now)(hn1:n1<=100000)(hr:Rise σ.servs)(hl:σ.sems[j]? = some l)(hn2:n2<=100000) (hκ : wq j = .own w)
  (hq:∀x r,l.queue=x::r->∃v,σ.servs[pm.at_ σ.servs x]? = some v)
  (h:∀m' a n c ss' ls' qs' wq',Ow TT wj wq' m0 m' lam a1 n1 c1 a2 n2 c2 a3 n3 c3 ss' js ls' qs' (pm.free σ ((j:Int)+1) thrown).1->vD wq wq'->(∃S,Fr m m' S/\∀b∈S,lam b = .sv∨lam b = .lk)->
   EvS m m' a n c (pm.free σ ((j:Int)+1) thrown).2->n<=2->Q (.slice a n c) m') :
  ah cx jN [.agg #[.int .i64 M,.int .i64 now,.slice a1 n1 c1,.slice a2 n2 c2,.slice a3 n3 c3],.int .i64 ((j:Int)+1),.bool thrown] m Q:=by
 apply um;unfold ql;have hw:=hO.keep.wf;have hjl:=(List.getElem?_eq_some_iff.1 hl).1;have l2:=hO.s2d;have ej:cZ .i64 ((j:Int)+1) 1=(j:Int):=by rw[eF (by omega) (by omega)];omega
 have ej2:((j:Int)+1-1).toNat=j:=by omega
 rw[ej];obtain⟨u,hu⟩:∃u,ls[j]? = some u:=⟨_,List.getElem?_eq_getElem (by rw[hO.s2n];omega)⟩;have k0:Keep m (bump m 1):=(Keep.refl hw).bump;have hO0:=hO.then k0;obtain⟨b2,o2,rfl,hlb2,_⟩:=hO0.atL hu;refine⟨⟨by omega,by omega⟩,?_⟩;rw[cS];obtain⟨dl0,dq0⟩:=hO0.dl j u l hu hl;obtain⟨g1,hO1⟩:=hO0.setL (κ:=wq j) (qs':=qs j) (x':={ l with holder:=0 }) (v':={ u with holder:=0 }) (k:=1) (vs:=[.int .i64 0]) hu rfl (by simp) rfl (hO0.qu j u hu) ⟨⟨dl0.most,rfl,dl0.dead⟩,dq0⟩;rw[fE,fE]at hO1;refine⟨g1,?_⟩;rw[cP];have f1:Fr m (wr (bump m 1) b2 (o2+Int.toNat (j:Int)*4+1) [.int .i64 0]) [b2]:=(k0.fr [b2]).wr (.inl (by simp));generalize wr (bump m 1) b2 (o2+Int.toNat (j:Int)*4+1) [.int .i64 0]=m1 at hO1 f1;have hu1:=ec (y:={ u with holder:=0 }) hu;have hl1:=ec (y:={ l with holder:=0 }) hl;obtain⟨b2',o2',e,_,hc1⟩:=hO1.atL hu1;cases e;refine⟨u.qa,u.qn,u.qc,hc1 2 _ rfl,?_⟩;have hQ1:=hO1.qu j _ hu1;have hql:(qs j).length=u.qn:=(hQ1.arr dM).1;refine iY (fun he=>?_) (fun he=>?_)
 ·
  have hq0:l.queue=[]:=by rw[<-dq0];exact List.length_eq_zero_iff.1 (by simp[am]at he;omega)
  obtain⟨g2,hO2⟩:=hO1.setL (κ:=wq j) (qs':=qs j) (x':={ l with holder:=0,dead:=thrown }) (v':={ u with holder:=0,dead:=thrown }) (k:=3) (vs:=[.bool thrown]) hu1 rfl (by simp) rfl hQ1 ⟨⟨dl0.most,rfl,rfl⟩,dq0⟩;rw[fE,fE]at hO2;refine⟨g2,?_⟩;rw[cP];have ef:pm.free σ ((j:Int)+1) thrown=({ σ with sems:=σ.sems.set j { l with holder:=0,dead:=thrown } },[]):=by
   unfold pm.free;rw[ej2];simp only[hl,hq0]
  refine h _ none 0 0 _ _ _ _ (by rw[ef];simpa [List.set_set]using hO2) (vD.refl _) ⟨[b2],f1.wr (.inl (by simp)),fun b hb=>.inr (by rw[List.mem_singleton.1 hb];exact hlb2)⟩ (by rw[ef];exact EvS.nil _ _) (by omega)
 ·
  obtain⟨x,r,hxr⟩:∃x r,l.queue=x::r:=by
   cases hq0:l.queue with
   | nil=>rw[hq0]at dq0;rw[dq0]at hql;simp[am]at he;simp at hql;omega
   | cons x r=>exact⟨x,r,rfl⟩
  rw[hxr]at dq0;refine⟨u.qa,u.qn,u.qc,hc1 2 _ rfl,?_⟩;have hA1:=hQ1.arr dM;refine hA1.open (k:=0) (x:=x) (by rw[dq0];rfl) fun b o hc=>⟨x,hc 0 _ rfl,?_⟩
  obtain⟨g2,hO2⟩:=hO1.setL (κ:=wq j) (qs':=qs j) (x':={ l with holder:=x }) (v':={ u with holder:=x }) (k:=1) (vs:=[.int .i64 x]) hu1 rfl (by simp) rfl hQ1 ⟨⟨dl0.most,rfl,dl0.dead⟩,by rw[dq0,<-hxr]⟩;rw[fE,fE]at hO2;refine⟨g2,?_⟩;rw[cP];have f2:=f1.wr (b:=b2) (o:=o2+Int.toNat (j:Int)*4+1) (l:=[.int .i64 x]) (.inl (by simp));generalize wr m1 b2 (o2+Int.toNat (j:Int)*4+1) [.int .i64 x]=m3 at hO2 f2;have hu2:=ec (y:={ u with holder:=x }) hu1;have hl2:=ec (y:={ l with holder:=x }) hl1;obtain⟨b2',o2',e,_,hc2⟩:=hO2.atL hu2;cases e;refine⟨u.qa,u.qn,u.qc,hc2 2 _ rfl,?_⟩;have hH:=hO2.qu j _ hu2;rw[hκ]at hH;obtain⟨p1,p2,p3⟩:=hH;rw[dq0]at p1 p3;obtain⟨a',t1,t2,t3⟩:=p1.tail (cx:=cx) dM p3 BC zt;refine⟨_,_,_,t1,?_⟩;obtain⟨g3,hO3⟩:=hO2.setL (κ:=.own false) (qs':=r) (x':={ l with holder:=x,queue:=r }) (v':={ u with holder:=x,qa:=a',qn:=u.qn-1,qc:=u.qc-1 }) (k:=2) (vs:=[.slice a' (u.qn-1) (u.qc-1)]) hu2 rfl (by simp) rfl
   ⟨t2,by rw[t3];exact p2,by have:(x::r).length=u.qn:=p3;simp at this;simp;omega⟩ ⟨⟨dl0.most,rfl,dl0.dead⟩,rfl⟩
  refine⟨g3,?_⟩;rw[cP];have f3:=f2.wr (b:=b2) (o:=o2+Int.toNat (j:Int)*4+2) (l:=[.slice a' (u.qn-1) (u.qc-1)]) (.inl (by simp));generalize wr m3 b2 (o2+Int.toNat (j:Int)*4+2) [.slice a' (u.qn-1) (u.qc-1)]=m4 at hO3 f3;have hu3:=ec (y:={ u with holder:=x,qa:=a',qn:=u.qn-1,qc:=u.qc-1 }) hu2;have k4:Keep m4 (bump m4 11):=(Keep.refl hO3.keep.wf).bump;have hO4:=hO3.then k4;obtain⟨b2',o2',e,_,hc4⟩:=hO4.atL hu3;cases e;refine⟨x,hc4 1 _ rfl,?_⟩;refine Hg k4.wf (hO4.reads (cx:=cx) eM en jx) hr hn1 fun m5 k5=>⟨_,_,rfl,?_⟩
  obtain⟨v,hv⟩:=hq x r hxr;generalize hp:pm.at_ σ.servs x=p at hv
  have hpl:=(List.getElem?_eq_some_iff.1 hv).1;have l1:=hO.s1d;obtain⟨sv,hsv⟩:∃sv,ss[p]? = some sv:=⟨_,List.getElem?_eq_getElem (by rw[hO.s1n];omega)⟩;have k6:Keep m5 (bump m5 12):=(Keep.refl k5.wf).bump;have hO6:=hO4.then (k5.trans k6);obtain⟨b1,o1,rfl,hlb1,_⟩:=hO6.atS hsv;refine⟨⟨by omega,by omega⟩,?_⟩;rw[cS];have f6:Fr m (bump m5 12) [b2]:=(f3.trans ((k4.trans (k5.trans k6)).fr []) (fun b hb=>by cases hb));generalize bump m5 12=m6 at hO6 f6;obtain⟨ds0,dj0⟩:=hO6.ds p sv v hsv hv;obtain⟨g4,hO7⟩:=hO6.setS (κ:=wj p) (js':=js p) (x':={ v with sec:=2 }) (v':={ sv with sec:=2 }) (k:=7) (vs:=[.int .i64 2]) hsv rfl (by simp) rfl (hO6.jb p sv hsv) ⟨⟨ds0.id,ds0.s,rfl,ds0.held,ds0.num,ds0.ran⟩,dj0⟩;rw[fE,fE]at hO7;refine⟨⟨g4.1,?_⟩,g4,?_⟩
  .obtain⟨_,cc,kk,ee,xx,hg,_⟩:=g4;exact⟨cc,kk,ee,xx,hg,Nat.zero_le _⟩
  rw[cP];have f7:Fr m (wr m6 b1 (o1+Int.toNat (p:Int)*11+7) [.int .i64 2]) [b1,b2]:=(f6.mono (S':=[b1,b2]) (fun b hb=>.inl (by simp at hb;subst hb;simp))).wr (.inl (by simp));generalize wr m6 b1 (o1+Int.toNat (p:Int)*11+7) [.int .i64 2]=m7 at hO7 f7;have hsv7:=ec (y:={ sv with sec:=2 }) hsv;have hv7:=ec (y:={ v with sec:=2 }) hv;refine⟨⟨by omega,by omega⟩,?_⟩;rw[cS];have hJ7:=hO7.jb p _ hsv7;obtain⟨g5,hO8⟩:=hO7.setS (κ:=wj p) (js':=js p) (x':={ v with sec:=2,held:=0 }) (v':={ sv with sec:=2,held:=0 }) (k:=8) (vs:=[.int .i64 0]) hsv7 rfl (by simp) rfl hJ7 ⟨⟨ds0.id,ds0.s,rfl,rfl,ds0.num,ds0.ran⟩,(hO7.ds p _ _ hsv7 hv7).2⟩;rw[fE,fE]at hO8;refine⟨g5,?_⟩;rw[cP];have f8:=f7.wr (b:=b1) (o:=o1+Int.toNat (p:Int)*11+8) (l:=[.int .i64 0]) (.inl (by simp));generalize wr m7 b1 (o1+Int.toNat (p:Int)*11+8) [.int .i64 0]=m8 at hO8 f8;have ef:pm.free σ ((j:Int)+1) thrown=({ σ with sems:=σ.sems.set j { l with holder:=x,queue:=r },servs:=σ.servs.set p { v with sec:=2,held:=0 } },(bif thrown then [pm.dU σ 7 x 0] else [])++[pm.dU σ 6 x ((j:Int)+1)]):=by
   unfold pm.free;rw[ej2];simp only[hl,hxr,hp,hv]
  have hO9:=hO8.cast (σ':=(pm.free σ ((j:Int)+1) thrown).1) (by rw[ef];simp[List.set_set]);have hev:(pm.free σ ((j:Int)+1) thrown).2=(bif thrown then [pm.dU σ 7 x 0] else [])++[pm.dU σ 6 x ((j:Int)+1)]:=by rw[ef]
  have hN8:m.nx<=m8.nx:=f8.nx;generalize (pm.free σ ((j:Int)+1) thrown).1 = σ9 at hO9 h;generalize (pm.free σ ((j:Int)+1) thrown).2=E9 at hev h;refine dW (fun f:Option Addr->Nat->Nat->Mem->Prop=>∀a n c mm,Acc m8 mm a n c 4 t_model_Event ((bif thrown then [pm.dU σ 7 x 0] else []).flatMap encEv)->n<=1->f a n c mm) ?_ ?_
  .intro a n c mm hacc hn;have hO9':=hO9.then hacc.keep;have k10:Keep mm (bump mm 11):=(Keep.refl hacc.keep.wf).bump;obtain⟨b2',o2',e,_,hc10⟩:=(hO9'.then k10).atL hu3;cases e;refine⟨x,hc10 1 _ rfl,?_⟩;refine rs (m:=m) (E:=bif thrown then [pm.dU σ 7 x 0] else []) hO9' hO.lab (Nat.le_trans hN8 hacc.keep.nx) ⟨hacc.grow,fun b hb=>Nat.le_trans hN8 (hacc.new b hb)⟩ (by omega) (by omega) fun m2 hOz hEz hfz hxz=>?_
   refine h m2 _ _ _ _ _ _ _ hOz (vD.up _ _ _) ⟨[b1,b2],(f8.trans (hacc.keep.fr []) (fun b hb=>by cases hb)).trans hfz (fun b hb=>.inr (Nat.le_trans hN8 (hacc.new b hb))),fun b hb=>?_⟩ (by rw[hev];rw[en]at hEz;exact hEz) (by omega);simp at hb;rcases hb with rfl|rfl
   .exact .inl hlb1
   .exact .inr hlb2
  .intro J hJ;refine cO (fun ht=>?_) (fun ht=>?_)
   .rw[ht,cond_true]at hJ;have k10:Keep m8 (bump m8 10):=(Keep.refl hO9.keep.wf).bump;obtain⟨b2',o2',e,_,hc10⟩:=(hO9.then k10).atL hu3;cases e;refine⟨x,hc10 1 _ rfl,?_⟩;refine rs (m:=m8) hO9 hO9.lab (Nat.le_refl _) (EvS.nil m8 m8) (by omega) (by omega) fun m2 hOz hEz hfz hxz=>?_
    refine hJ _ _ _ _ ⟨Keep.of_fr (Keep.refl hO9.keep.wf) hOz.keep.wf hfz (fun b hb=>by cases hb),?_,hEz.new⟩ (by omega);have:=hEz.grow;rw[en]at this;exact this
   .rw[ht,cond_false]at hJ;exact hJ _ _ _ _ (Acc.nil (Keep.refl hO9.keep.wf) _ _) (by omega)
end
end Go.Proofs.YthpnifigjfplbaaGreat.vc
