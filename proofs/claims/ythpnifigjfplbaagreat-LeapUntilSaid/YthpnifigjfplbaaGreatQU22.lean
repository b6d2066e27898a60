import Derived.Test.YthpnifigjfplbaaGreatQU20
import Derived.Deep.Slices
import Derived.Deep.Fields
import Derived.ChangeSame
import Derived.OpenShut
import Derived.Test.YthpnifigjfplbaaGreatQU08
set_option linter.unusedSimpArgs false
set_option linter.unusedVariables false
set_option linter.unusedSectionVars false
namespace Go.AX
open Go Go.RowKit Go.ChangeShapes Go.WideShapes Go.Deep
section
variable {H:Type} {enc:TypeId×Value->H} {P:Program} {w:World} {base:Nat} {spare:Nat->Bool} {held:Bool}
theorem Hb{t e:TypeId}{fs:Array Field}{fuel:Nat}{cs:List Value}{x:DataW H×List MemPlace}(ht:P.underlying t=some (.slice e))(he:P.underlying e=some (.struct fs))
  (hone:oneCellFields P fs=true) (hC:P.cellsOf e=fs.size) (h:DataW.trod enc P w base spare held fuel t cs=some x) :
  cs=[.slice none 0 0]∨
  ∃(a:Addr) (len cap m:Nat),cs=[.slice (some a) len cap]/\len<=cap/\cap<=maxLen/\m=(if spare a.block then cap else len)/\
   ∀i,i<m->∀(j:Nat) (f:Field),fs[j]? = some f->∃(v:Value) (y:DataW H×List MemPlace) (n:Nat),w.cell? (a.add (i*fs.size+j))=some v/\DataW.trod enc P w base spare held n f.type [v]=some y:=by
 rcases open_slice ht h with h0|⟨a,len,cap,m,n,D,Pl,hcs,hb,hl,hm,hmm,hx,hi⟩
 .exact .inl h0.1
 .refine .inr ⟨a,len,cap,m,hcs,hl,hm,hmm,fun i him=>?_⟩;obtain⟨cs',hc,ht'⟩:=hi i him;rw[hC]at hc;obtain⟨ys,n',hn',hy,hlen,hyl,hf⟩:=DataW.trod_struct he ht';obtain⟨_,hcl,hat⟩:=World.cells?_some hc;intro j f hj;obtain⟨ho,hk⟩:=hone_of hone j f hj;have hjl:j<fs.size:=(Array.getElem?_eq_some_iff.1 hj).1;have hcell:=hat j hjl;have hv:cs'[j]? = some (cs'[j]'(by omega)):=gQ2 (by omega);have h1:=hf j f hj;rw[ho,hk]at h1;have hone':(cs'.drop j).take 1=[cs'[j]'(by omega)]:=by
   rw[List.drop_eq_getElem_cons (by omega)];rfl
  rw[hone']at h1;have hys:ys[j]? = some (ys[j]'(by omega)):=gQ2 (by omega);refine⟨_,_,_,?_,h1.trans hys⟩;rw[<-Go.Deep.add_add,hcell,hv]
theorem qD{t e:TypeId}{r:Reach}{b0:Nat}{v:Value}{a:Option Addr}{n c:Nat}(ht:P.underlying t=some (.slice e))(hval:Value.okWide P w r b0 t v)(h:v.cells.toList=[.slice a n c]):v = .slice a n c:=by
 obtain⟨a',n',c',rfl⟩:=okWide_slice ht hval;simpa [Value.cells]using h
theorem J8{n:Int}(h:(Lit.int .i64 n).wf=true):-9223372036854775808<=n/\n<=9223372036854775807:=by
 simpa [Lit.wf,IntKind.min,IntKind.max,IntKind.bits,IntKind.signed]using h
theorem JO{t:TypeId}{k:Nat}{b o:Nat}{x:Value}{y:DataW H×List MemPlace}(ht:P.underlying t=some (.int .i64))(hc:w.cell? ⟨b,o,none⟩=some x)(h:DataW.trod enc P w 0 (fun _=>true) true k t [x]=some y) :
  ∃n,rd (mW P w) b o=some (.int .i64 n)/\-9223372036854775808<=n/\n<=9223372036854775807:=by
 obtain⟨n,h1,h2,h3⟩:=DataW.trod_int ht h;cases h1;exact⟨n,NL hc rfl,J8 h3⟩
end
theorem CS{α : Type}{n:Nat}{R:Nat->α->Prop}(h:∀i,i<n->∃x,R i x):∃l:List α,l.length=n/\∀i x,l[i]? = some x->R i x:=by
 induction n with
 | zero=>exact⟨[],rfl,fun i x e=>by simp at e⟩
 | succ n ih=>
  obtain⟨l,h1,h2⟩:=ih (fun i hi=>h i (by omega));obtain⟨x,hx⟩:=h n (Nat.lt_succ_self n);refine⟨l++[x],by simp[h1],fun i y e=>?_⟩;by_cases hi:i<l.length
  .rw[List.getElem?_append_left hi]at e;exact h2 i y e
  .rw[List.getElem?_append_right (by omega)]at e;have:i=n:=by
    have:=(gQ1 e).1;simp at this;omega
   subst this;rw[h1]at e;simp at e;subst e;exact hx
theorem NQ(P:Program)(w:World):(mW P w).fl<=(mW P w).nx/\∀b,(mW P w).nx<=b->(mW P w).hp.get b=none:=
 ⟨gQ4 _,fun b hb=>by
  show (pQ (wM (iP P w) w) w.heap.size).get b=none;have h1:iP P w<=b:=hb;have h2:w.heap.size<=iP P w:=Nat.le_max_left _ _;rw[lK,if_neg (by omega)]⟩
theorem Mg{H:Type}{enc:TypeId×Value->H}{P:Program}{f:Func}{s:ChangeSpec}{W W':World}{args:Array Value}{ds:List (DataW H)}{p:List MemPlace}{tb:TypeId}(hb:P.underlying tb=some .bool)(hr:f.resultTypes = #[tb])
  (hvars:s.vars=[]) (hfn:s.fn H ds = { results:=[.lit (.bool true)],args:=ds }) (hp:f.params.toList.all (tz P 8)=true)
  (hW:DataW.Whole enc P f.params.toList s.vars false W args.toList ds [] p) (hA:DataW.TrodAll enc P W 0 (fun _=>true) true f.params.toList args.toList ds p) (hg:Below W.heap.size W W') :
  s.post enc P f false true false false W args (.bool true) W':=by
 have hds:s.fn H (ds++[]) = { results:=[.lit (.bool true)],args:=ds }:=by rw[List.append_nil];exact hfn
 refine EP (gs:=[]) (pa:=p) (pv:=[]) hW ?_ ?_ ?_ (by simp) hg ?_
 .intro b sp hd;rw[hds,hr];exact trodAll_cons_mk (shut_bool hb _) trodAll_mk0
 .intro sp hsp;rw[hds];exact xN hg hp hA hsp
 .intro sp _;rw[hds,hvars];rfl
 .exact ok_one hr rfl (okWide_bool_mk hb _)
end Go.AX
namespace Go.AX
open Go Go.RowKit Go.ChangeShapes Go.WideShapes Go.Deep
section
variable {H:Type} {enc:TypeId×Value->H} {P:Program} {w:World} {base:Nat} {spare:Nat->Bool} {held:Bool}
theorem Ix{t e:TypeId}{fuel:Nat}{cs:List Value}{x:DataW H×List MemPlace}(ht:P.underlying t=some (.slice e))(hC:P.cellsOf e=1)(h:DataW.trod enc P w base spare held fuel t cs=some x) :
  cs=[.slice none 0 0]∨
  ∃(a:Addr) (len cap m:Nat),cs=[.slice (some a) len cap]/\len<=cap/\cap<=maxLen/\m=(if spare a.block then cap else len)/\
   ∀i,i<m->∃(v:Value) (y:DataW H×List MemPlace) (n:Nat),w.cell? (a.add i)=some v/\DataW.trod enc P w base spare held n e [v]=some y:=by
 rcases open_slice ht h with h0|⟨a,len,cap,m,n,D,Pl,hcs,hb,hl,hm,hmm,hx,hi⟩
 .exact .inl h0.1
 .refine .inr ⟨a,len,cap,m,hcs,hl,hm,hmm,fun i him=>?_⟩;obtain⟨cs',hc,ht'⟩:=hi i him;rw[hC]at hc;obtain⟨_,hcl,hat⟩:=World.cells?_some hc;have hcell:=hat 0 (by omega);have h1:cs'=[cs'[0]'(by omega)]:=by
   match cs',hcl with
   | [v],_=>rfl
  have hv:cs'[0]? = some (cs'[0]'(by omega)):=gQ2 (by omega);rw[h1]at ht';refine⟨_,_,_,?_,ht'⟩;have e0:a.add (i*1)=a.add i:=by rw[Nat.mul_one]
  have e1:∀x:Addr,x.add 0=x:=fun x=>by simp[Addr.add]
  rw[<-e0,<-e1 (a.add (i*1)),hcell,hv]
theorem Ha{t e:TypeId}{r:Reach}{b0:Nat}{v:Value}{d:DataW H}{ps:List MemPlace}(ht:P.underlying t=some (.slice e))(hC:P.cellsOf e=1)
  (hval:Value.okWide P w r b0 t v) (hd:DataW.Trod enc P w 0 (fun _=>true) true t v d ps) :
  ∃a n c,v = .slice a n c/\n<=maxLen/\Be (iP P w) (.slice a n c)=true/\
   ∀i,i<n->∃b o,a=some ⟨b,o,none⟩/\b<w.heap.size/\∃(x:Value) (y:DataW H×List MemPlace) (k:Nat),w.cell? ⟨b,o+i,none⟩=some x/\DataW.trod enc P w 0 (fun _=>true) true k e [x]=some y:=by
 obtain⟨fuel,hf⟩:=hd;rcases Ix ht hC hf with h1|⟨a,n,c,m,h1,hl,hm,hmm,hi⟩
 .exact⟨none,0,0,qD ht hval h1,by unfold maxLen;omega,rfl,fun i hi=>by omega⟩
 .have hmc:c=m:=Eq.symm hmm;subst hmc;have first:0<c->∃b o,a=⟨b,o,none⟩/\b<w.heap.size:=by
   intro hc;obtain⟨x,y,k,h2,h3⟩:=hi 0 hc;have e0:a.add 0=a:=by simp[Addr.add]
   rw[e0]at h2;obtain⟨b,o,sp⟩:=a;have hsp:sp=none:=by
    cases sp with
    | none=>rfl
    | some s=>unfold World.cell? at h2;split at h2<;>simp at h2
   subst hsp;exact⟨b,o,rfl,HN h2⟩
  refine⟨some a,n,c,qD ht hval h1,by omega,?_,fun i hin=>?_⟩
  .by_cases hc:c=0
   .subst hc;have:n=0:=by omega
    subst this;rfl
   .obtain⟨b,o,rfl,hb⟩:=first (by omega);have hN:b<iP P w:=Nat.lt_of_lt_of_le hb (Nat.le_max_left _ _);cases n with
    | zero=>cases c with
     | zero=>rfl
     | succ c=>show (true&&Nat.blt b (iP P w))=true;simpa using hN
    | succ n=>show (true&&Nat.blt b (iP P w))=true;simpa using hN
  .obtain⟨b,o,rfl,hb⟩:=first (by omega);refine⟨b,o,rfl,hb,?_⟩;obtain⟨x,y,k,h4,h5⟩:=hi i (by omega);refine⟨x,y,k,?_,h5⟩;have:(⟨b,o,none⟩:Addr).add i=⟨b,o+i,none⟩:=by
    unfold Addr.add;by_cases hz:i=0
    .rw[if_pos hz];congr 1;omega
    .rw[if_neg hz]
   rwa [this]at h4
def LO(m:Mem)(a:Option Addr)(n:Nat)(l:List Value):Prop:=l.length=n/\∀i v,l[i]? = some v->∃b o,a=some ⟨b,o,none⟩/\rd m b (o+i)=some v
theorem LP{t e:TypeId}{r:Reach}{b0:Nat}{v:Value}{d:DataW H}{ps:List MemPlace}(ht:P.underlying t=some (.slice e))(he:P.underlying e=some (.int .i64))(hC:P.cellsOf e=1)
  (hval:Value.okWide P w r b0 t v) (hd:DataW.Trod enc P w 0 (fun _=>true) true t v d ps) :
  ∃a n c,∃l:List Int,v = .slice a n c/\n<=maxLen/\Be (iP P w) (.slice a n c)=true/\LO (mW P w) a n (l.map (.int .i64 ·))/\(∀x∈l,-9223372036854775808<=x/\x<=9223372036854775807):=by
 obtain⟨a,n,c,h1,h2,h3,h4⟩:=Ha ht hC hval hd;obtain⟨l,h5,h6⟩:=CS (n:=n) (R:=fun i (x:Int)=>(∃b o,a=some ⟨b,o,none⟩/\rd (mW P w) b (o+i)=some (.int .i64 x))/\-9223372036854775808<=x/\x<=9223372036854775807) (by
  intro i hi;obtain⟨b,o,ha,_,x,y,k,hc,ht'⟩:=h4 i hi;obtain⟨z,p0,q0⟩:=JO he hc ht';exact⟨z,⟨b,o,ha,p0⟩,q0⟩)
 refine⟨a,n,c,l,h1,h2,h3,⟨by simp[h5],fun i v hv=>?_⟩,fun x hx=>?_⟩
 .rw[List.getElem?_map,Option.map_eq_some_iff]at hv;obtain⟨x,hx,rfl⟩:=hv;exact(h6 i x hx).1
 .obtain⟨i,hi⟩:=List.getElem?_of_mem hx;exact(h6 i x hi).2
end
end Go.AX
namespace Go.AX
open Go
theorem Row.sameSize{cx:Cx}{m:Mem}{b:Nat}{l:List Value}{e:TypeId}{x:Bool}{s:Nat}(h:Row m b l e x)(hs:dO cx e=some s):sameSize cx m b s=true:=by
 obtain⟨c,h1,_⟩:=h;unfold AX.sameSize;rw[h1];cases x with
 | false=>rfl
 | true=>simp[hs]
theorem eR{cx:Cx}{m:Mem}{t e:TypeId}{s b o n c i j:Nat}{lo hi:Option Value}(ht:cx.un.get t=some (.slice e))(hs:dO cx e=some s)(hhi:fi n hi c=some j)(hlo:fi 0 lo j=some i)(hss:sameSize cx m b s=true)(hjc:j<=c) :
  cX cx m t (.slice (some ⟨b,o,none⟩) n c) lo hi none=some (.slice (some ⟨b,o+i*s,none⟩) (j-i) (c-i)):=by
 unfold cX;simp only[ht,hs,hhi,hlo,hss,gQ8 hjc,Bool.and_self];rfl
theorem dC{d y:Nat}{k:IntKind}{i:Nat}(h:i<=y):fi d (some (.int k (i:Int))) y=some i:=by
 unfold fi;simp[h]
theorem mA{d y:Nat}:fi d none y=some d:=rfl
end Go.AX
namespace Go.AX
open Go
theorem dL{α : Type}{j:α}{f:α->Prop}(P:α->Prop)(hj:P j)(h:∀J,P J->f J):dJ j f:=h j hj
theorem ww{k n:Nat}(hn:n<=4611686018427387904)(hk:k<n):bh .i64 (k:Int) 1=((k+1:Nat):Int):=by
 rw[dN (by omega) (by omega)];rfl
theorem og{n:Nat}{m:Mem}{B:(Int->Mem->Nat->Prop)->Int->Mem->Nat->Prop}(hn:n<=4611686018427387904)(R:Nat->Mem->Prop)(h0:R 0 m)
  (hs:∀k m1,k<=n->R k m1->∀I w,(∀m2,k<n->R (k+1) m2->∃n',n'<w/\I (bh .i64 (k:Int) 1) m2 n')->B I (k:Int) m1 w) :
  ∃Inv:Int->Mem->Nat->Prop,(∃w,Inv 0 m w)/\∀x m1 w,Inv x m1 w->B Inv x m1 w:=by
 refine⟨fun x m1 w=>∃k:Nat,x=(k:Int)/\k<=n/\w=n-k/\R k m1,⟨n,0,rfl,Nat.zero_le _,rfl,h0⟩,?_⟩;rintro x m1 w ⟨k,rfl,hk,rfl,hR⟩;exact hs k m1 hk hR _ _ fun m2 hlt h=>⟨n-(k+1),by omega,k+1,ww hn hlt,by omega,rfl,h⟩
theorem NM{α : Type}{n:Nat}{m:Mem}{a0:α}{B:(α->Int->Mem->Nat->Prop)->α->Int->Mem->Nat->Prop}(hn:n<=4611686018427387904)(R:Nat->α->Mem->Prop)(h0:R 0 a0 m)
  (hs:∀k a m1,k<=n->R k a m1->∀I w,(∀a' m2,k<n->R (k+1) a' m2->∃n',n'<w/\I a' (bh .i64 (k:Int) 1) m2 n')->B I a (k:Int) m1 w) :
  ∃Inv:α->Int->Mem->Nat->Prop,(∃w,Inv a0 0 m w)/\∀a x m1 w,Inv a x m1 w->B Inv a x m1 w:=by
 refine⟨fun a x m1 w=>∃k:Nat,x=(k:Int)/\k<=n/\w=n-k/\R k a m1,⟨n,0,rfl,Nat.zero_le _,rfl,h0⟩,?_⟩;rintro a x m1 w ⟨k,rfl,hk,rfl,hR⟩;exact hs k a m1 hk hR _ _ fun a' m2 hlt h=>⟨n-(k+1),by omega,k+1,ww hn hlt,by omega,rfl,h⟩
theorem oN{α β γ : Type}{n:Nat}{m:Mem}{a0:α}{b0:β}{c0:γ}{B:(α->β->γ->Int->Mem->Nat->Prop)->α->β->γ->Int->Mem->Nat->Prop}(hn:n<=4611686018427387904)(R:Nat->α->β->γ->Mem->Prop)(h0:R 0 a0 b0 c0 m)
  (hs:∀k a b c m1,k<=n->R k a b c m1->∀I w,(∀a' b' c' m2,k<n->R (k+1) a' b' c' m2->∃n',n'<w/\I a' b' c' (bh .i64 (k:Int) 1) m2 n')->B I a b c (k:Int) m1 w) :
  ∃Inv:α->β->γ->Int->Mem->Nat->Prop,(∃w,Inv a0 b0 c0 0 m w)/\∀a b c x m1 w,Inv a b c x m1 w->B Inv a b c x m1 w:=by
 refine⟨fun a b c x m1 w=>∃k:Nat,x=(k:Int)/\k<=n/\w=n-k/\R k a b c m1,⟨n,0,rfl,Nat.zero_le _,rfl,h0⟩,?_⟩;rintro a b c x m1 w ⟨k,rfl,hk,rfl,hR⟩;exact hs k a b c m1 hk hR _ _ fun a' b' c' m2 hlt h=>⟨n-(k+1),by omega,k+1,ww hn hlt,by omega,rfl,h⟩
theorem N7{k n:Nat}:cR (k:Int) (aQ n)=true↔k<n:=by rw[gH];simp[aQ]
theorem LW{k n:Nat}:cR (k:Int) (aQ n)=false↔n<=k:=by rw[dW];simp[aQ]
theorem dG{k n:Nat}{t e:Prop}(h1:k<n->t)(h2:n<=k->e):splitB (cR (k:Int) (aQ n)) t e:=by
 rw[fe];exact⟨fun h=>h1 (N7.1 h),fun h=>h2 (LW.1 h)⟩
theorem fC{x y:Int}{t e:Prop}(h1:x=y->t)(h2:x≠y->e):splitB (cT x y) t e:=by
 rw[fe];exact⟨fun h=>h1 (eH.1 h),fun h=>h2 (dY.1 h)⟩
theorem fu{x y:Int}{t e:Prop}(h1:x≠y->t)(h2:x=y->e):splitB (dT x y) t e:=by
 rw[fe];exact⟨fun h=>h1 (iw.1 h),fun h=>h2 (fF.1 h)⟩
theorem dP{x y:Int}{t e:Prop}(h1:x<y->t)(h2:y<=x->e):splitB (cR x y) t e:=by
 rw[fe];exact⟨fun h=>h1 (gH.1 h),fun h=>h2 (dW.1 h)⟩
theorem xZ{x y:Int}{t e:Prop}(h1:x<=y->t)(h2:y<x->e):splitB (leI x y) t e:=by
 rw[fe];exact⟨fun h=>h1 (fZ.1 h),fun h=>h2 (ki.1 h)⟩
theorem cJ{b:Bool}{t e:Prop}(h1:b=true->t)(h2:b=false->e):splitB b t e:=fe.2 ⟨h1,h2⟩
theorem dR{b:Bool}{t e:Prop}(h1:b=false->t)(h2:b=true->e):splitB (!b) t e:=by
 cases b
 .exact h1 rfl
 .exact h2 rfl
def jm{α : Type}(P:Mem->Nat->Nat->α->Prop)(s:Nat)(m:Mem)(a:Option Addr)(n:Nat)(l:List α):Prop:=
 l.length=n/\∀i x,l[i]? = some x->∃b o,a=some ⟨b,o,none⟩/\P m b (o+i*s) x
theorem jm.open{α : Type}{P:Mem->Nat->Nat->α->Prop}{s:Nat}{m:Mem}{a:Option Addr}{n:Nat}{l:List α}(h:jm P s m a n l){k:Nat}{x:α}{G:Nat->Nat->Prop}(hx:l[k]? = some x)
  (hG:∀b o,P m b (o+Int.toNat (k:Int)*s) x->G b o):(0<=(k:Int)/\(k:Int)<((n:Nat):Int))/\cZ a G:=by
 have hlt:=(gQ1 hx).1;obtain⟨b,o,rfl,hP⟩:=h.2 k x hx;exact⟨⟨by omega,by have:=h.1;omega⟩,hG b o hP⟩
theorem jm.get{α : Type}{P:Mem->Nat->Nat->α->Prop}{s:Nat}{m:Mem}{a:Option Addr}{n:Nat}{l:List α}(h:jm P s m a n l){k:Nat}(hk:k<n):∃x,l[k]? = some x:=
 ⟨l[k]'(by have:=h.1;omega),gQ2 (by have:=h.1;omega)⟩
theorem jm.imp{α : Type}{P Q:Mem->Nat->Nat->α->Prop}{s:Nat}{m m':Mem}{a:Option Addr}{n:Nat}{l:List α}(h:jm P s m a n l)(hP:∀b o x,x∈l->P m b o x->Q m' b o x):jm Q s m' a n l:=
 ⟨h.1,fun i x hx=>by
  obtain⟨b,o,h1,h2⟩:=h.2 i x hx;exact⟨b,o,h1,hP _ _ _ (gQ3 hx) h2⟩⟩
theorem jm.nil{α : Type}{P:Mem->Nat->Nat->α->Prop}{s:Nat}{m:Mem}{a:Option Addr}:jm P s m a 0 []:=⟨rfl,fun i x hx=>by cases hx⟩
theorem zp{m m':Mem}(k:Keep m m')(hw:Wf m){b o:Nat}{v:Value}(h:rd m b o=some v):rd m' b o=some v:=by
 rw[tf (k.get b (hw.rd h))];exact h
theorem Qf{m m':Mem}{S:List Nat}(k:Fr m m' S)(hw:Wf m){b o:Nat}{v:Value}(h:rd m b o=some v)(hb:b∉S):rd m' b o=some v:=by
 rw[tf (k.get b (hw.rd h) hb)];exact h
def uE{α : Type}(enc:α->List Value)(m:Mem)(b o:Nat)(x:α):Prop:=∀j v,(enc x)[j]? = some v->rd m b (o+j)=some v
theorem uE.keep{α : Type}{enc:α->List Value}{m m':Mem}{b o:Nat}{x:α}(h:uE enc m b o x)(hw:Wf m)(k:Keep m m'):uE enc m' b o x:=fun j v hv=>zp k hw (h j v hv)
def Arr{α : Type}(enc:α->List Value)(s:Nat):=jm (uE enc) s
theorem Arr.keep{α : Type}{enc:α->List Value}{s:Nat}{m m':Mem}{a:Option Addr}{n:Nat}{l:List α}(h:Arr enc s m a n l)(hw:Wf m)(k:Keep m m'):Arr enc s m' a n l:=
 jm.imp h fun b o x _ hx=>hx.keep hw k
theorem flat_get{α : Type}{enc:α->List Value}{s:Nat}(hs:∀x,(enc x).length=s):∀{l:List α} {i j:Nat} {x:α},l[i]? = some x->j<s->(l.flatMap enc)[i*s+j]? = (enc x)[j]?
 | [],i,j,x,h,_=>by cases h
 | y::r,0,j,x,h,hj=>by
  simp at h;subst h;rw[List.flatMap_cons,List.getElem?_append_left (by rw[hs];omega)];simp
 | y::r,i+1,j,x,h,hj=>by
  rw[List.flatMap_cons,List.getElem?_append_right (by rw[hs,Nat.succ_mul];omega),hs,<-flat_get hs (by simpa using h) hj];congr 1;rw[Nat.succ_mul];omega
theorem dm{α : Type}{enc:α->List Value}{s:Nat}(hs:∀x,(enc x).length=s)(l:List α):(l.flatMap enc).length=l.length*s:=by
 induction l with
 | nil=>simp
 | cons a r ih=>rw[List.flatMap_cons,gR2,ih,hs,List.length_cons,Nat.succ_mul];omega
theorem Arr.of_grow{α : Type}{enc:α->List Value}{s:Nat}(hs:∀x,(enc x).length=s){m:Mem}{a:Option Addr}{n c:Nat}{e:TypeId}{l:List α}(h0:0<s)(h:Grow m a n c s e (l.flatMap enc)):Arr enc s m a n l:=by
 have hl:=h.1;rw[dm hs]at hl;refine⟨Nat.eq_of_mul_eq_mul_right h0 hl,fun i x hx=>?_⟩;have hlt:=(gQ1 hx).1;have hne:∃b,a=some ⟨b,0,none⟩/\Row m b (l.flatMap enc) e true:=by
  rcases h.2 with⟨_,h2,_⟩|⟨b,h1,_,_,h4⟩
  .have:l.length*s=0:=by rw[hl,h2,Nat.zero_mul]
   rcases Nat.mul_eq_zero.1 this with h|h<;>omega
  .exact⟨b,h1,h4⟩
 obtain⟨b,rfl,hr⟩:=hne;refine⟨b,0,rfl,fun j v hv=>?_⟩;have hj:j<s:=by rw[<-hs x];exact(gQ1 hv).1
 rw[hr.rd,Nat.zero_add,flat_get hs hx hj,hv]
theorem Arr.of_row{α : Type}{enc:α->List Value}{s:Nat}(hs:∀x,(enc x).length=s){m:Mem}{b:Nat}{e:TypeId}{y:Bool}{l:List α}(h:Row m b (l.flatMap enc) e y):Arr enc s m (some ⟨b,0,none⟩) l.length l:=by
 refine⟨rfl,fun i x hx=>⟨b,0,rfl,fun j v hv=>?_⟩⟩;have hj:j<s:=by rw[<-hs x];exact(gQ1 hv).1
 rw[h.rd,Nat.zero_add,flat_get hs hx hj,hv]
end Go.AX
namespace Go.AX
open Go
theorem AG(x:Int):dT x x=false:=by simp[dT]
theorem Keep.unset{m m1:Mem}{n:Nat}(hw:Wf m)(h:Keep (setFl m n) m1):Keep m (setFl m1 m.fl):=by
 refine⟨⟨?_,h.wf.2⟩,h.nx,rfl,h.get⟩;have:=h.nx;have h2:=hw.1;simp only[L8,L6]at *;omega
theorem Wf.setFl{m:Mem}(h:Wf m){n:Nat}(hn:n<=m.nx):Wf (AX.setFl m n):=⟨hn,h.2⟩
theorem Keep.unset'{m m0 m1:Mem}{n:Nat}(h0:Keep m m0)(h:Keep (AX.setFl m0 n) m1):Keep m (AX.setFl m1 m0.fl):=h0.trans (Keep.unset h0.wf h)
theorem sE{cx:Cx}{m:Mem}{t e s n k c ck:Nat}{a v:Option Addr}{old new:List Value}(hp:oO cx t e s=true)(hgu:giveUp m a e s c=some m)(hold:dA m s n (.slice a n c)=some old)(hol:old.length=n*s)
  (hnew:dA m s k (.slice v k ck)=some new) (hnl:new.length=k*s) (ho:new.all one1=true) (hcn:c<n+k) (hn:n+k<=1000000) :
  cQ cx m [t,t] [.slice a n c,.slice v k ck]=some (.slice (some ⟨m.nx,0,none⟩) (n+k) (n+k),newO m (row (old++new) e true)):=by
 obtain⟨i,z,h1,h2,h3,h4,h5,h6,h7⟩:=jg hp;subst h3;have hb:(2*(n+k)+192)*i.bytes<=140737488355328:=by
  have h1:(2*(n+k)+192)<=2000194:=by omega
  have h2:=Nat.mul_le_mul h1 h7;omega
 unfold cQ;simp only[h1,h2,mE,iR,hnew];have b1:(Nat.beq new.length (k*i.size)&&Nat.blt 0 i.size&&new.all one1)=true:=by
  rw[hnl,Tr.beq_true.2 rfl,show Nat.blt 0 i.size=true from gQ8 h6,ho];rfl
 have b2:Nat.ble (n+k) c=false:=by
  cases hh:Nat.ble (n+k) c with
  | false=>rfl
  | true=>have:=gQ6 hh;omega
 have b3:(Nat.ble ((2*(n+k)+192)*i.bytes) 140737488355328&&Nat.ble (n+k) 1099511627776)=true:=by
  rw[gQ8 hb,gQ8 (by omega)];rfl
 have b4:(Nat.beq old.length (n*i.size)&&Nat.beq (bQ z).length i.size)=true:=by
  rw[hol,h5,Tr.beq_true.2 rfl,Tr.beq_true.2 rfl];rfl
 simp only[b1,b2,b3,hold,h4,hgu,b4];rfl
theorem Arr.first{α : Type}{enc:α->List Value}{s:Nat}(hs:∀x,(enc x).length=s)(h0:0<s){m:Mem}{a:Option Addr}{n c:Nat}{l:List α}(h:Arr enc s m a n l):dA m s n (.slice a n c)=some (l.flatMap enc):=by
 have hl:=h.1;cases a with
 | none=>
  cases l with
  | nil=>rfl
  | cons x r=>obtain⟨b,o,e,_⟩:=h.2 0 x rfl;cases e
 | some ad=>
  cases n with
  | zero=>rw[List.length_eq_zero_iff.1 hl];rfl
  | succ n=>
   have hx0:l[0]? = some (l[0]'(by omega)):=gQ2 (by omega);obtain⟨b,o,e,_⟩:=h.2 0 _ hx0;cases e;simp only[dA];have hcell:∀j v,(l.flatMap enc)[j]? = some v->rd m b (o+j)=some v:=by
    intro j v hv;have hj:j<l.length*s:=by rw[<-dm hs];exact(gQ1 hv).1
    have hq:j / s<l.length:=(Nat.div_lt_iff_lt_mul h0).2 hj;have hxx:l[j / s]? = some (l[j / s]):=gQ2 hq;obtain⟨b',o',e',hc⟩:=h.2 _ _ hxx;cases e';have hm:=Nat.div_add_mod j s;have hr:=Nat.mod_lt j h0;have:=hc (j % s) v (by
     rw[<-flat_get hs hxx hr,<-hv];congr 1;rw[Nat.mul_comm];exact hm)
    rw[show o+j=o+j / s*s+j % s by rw[Nat.mul_comm (j / s) s];omega];exact this
   have hfl:=dm hs l;have hlen:(l.flatMap enc).length=(n+1)*s:=by rw[hfl,hl]
   have hpos:0<(l.flatMap enc).length:=by rw[hlen,Nat.succ_mul];omega
   have h1:=hcell ((l.flatMap enc).length-1) _ (gQ2 (by omega));rw[lH,<-hlen];unfold rd at h1 hcell;cases hr:wG (m.hp.get b)with
   | none=>rw[hr]at h1;cases h1
   | some cn=>
    obtain⟨c',N⟩:=cn;simp only[hr]at h1 hcell ⊢;have hN:o+((l.flatMap enc).length-1)<N:=by
     split at h1
     .rename_i hb;exact gQ6 hb
     .cases h1
    simp only[gQ8 (show o+(l.flatMap enc).length<=N by omega)];exact oU fun j v hj=>by
     have:=hcell j v hj;split at this
     .exact this
     .cases this
structure Acc (m m1:Mem) (a:Option Addr) (n c s:Nat) (e:TypeId) (l:List Value):Prop where
 keep:Keep m m1
 grow:Grow m1 a n c s e l
 new:∀b∈blk a,m.nx<=b
theorem Acc.nil{m m1:Mem}(k:Keep m m1)(s:Nat)(e:TypeId):Acc m m1 none 0 0 s e []:=⟨k,Grow.nil _ _ _,fun b h=>by cases h⟩
theorem Acc.then{m m1 m2:Mem}{a:Option Addr}{n c s:Nat}{e:TypeId}{l:List Value}(h:Acc m m1 a n c s e l)(k:Keep m1 m2):Acc m m2 a n c s e l:=
 ⟨h.keep.trans k,k.grow h.keep.wf h.grow,h.new⟩
theorem Acc.lt{m m1:Mem}{a:Option Addr}{n c s:Nat}{e:TypeId}{l:List Value}(h:Acc m m1 a n c s e l):∀b∈blk a,b<m1.nx:=h.grow.blk_lt h.keep.wf
theorem Acc.fr{m m1 m2:Mem}{S:List Nat}{a:Option Addr}{n c s:Nat}{e:TypeId}{l:List Value}(h:Acc m m1 a n c s e l)(hw:Wf m2)(f:Fr m1 m2 S)(hS:∀b∈S,m.nx<=b/\b∉blk a):Acc m m2 a n c s e l:=
 ⟨Keep.of_fr h.keep hw f fun b hb=>(hS b hb).1,h.grow.fr f h.keep.wf fun b hb hs=>(hS b hs).2 hb,h.new⟩
theorem Acc.push{cx:Cx}{m m1:Mem}{a:Option Addr}{n c s e t:Nat}{l vs:List Value}(h:Acc m m1 a n c s e l)(hp:oO cx t e s=true)(hvs:vs.length=s)(ho:vs.all one1=true)(hn:n<=1000000) :
  ∃m4,cQ cx (newO m1 (row vs e false)) [t,t] [.slice a n c,.slice (some ⟨m1.nx,0,none⟩) 1 1]=some (.slice (some ⟨m1.nx+1,0,none⟩) (n+1) (n+1),m4)/\
   Acc m m4 (some ⟨m1.nx+1,0,none⟩) (n+1) (n+1) s e (l++vs)/\Wf m4/\Fr m1 m4 (blk a)/\m4.nx=m1.nx+2:=by
 obtain⟨m4,h1,h2,h3,h4,h5⟩:=AX.push hp h.keep.wf h.grow hvs ho hn;refine⟨m4,h1,⟨Keep.of_fr h.keep h2 h3 h.new,h5,fun b hb=>?_⟩,h2,h3,h4⟩;simp[blk]at hb;have:=h.keep.nx;omega
theorem Acc.arr{α : Type}{enc:α->List Value}{s:Nat}(hs:∀x,(enc x).length=s)(h0:0<s){m m1:Mem}{a:Option Addr}{n c:Nat}{e:TypeId}{l:List α}(h:Acc m m1 a n c s e (l.flatMap enc)):Arr enc s m1 a n l:=Arr.of_grow hs h0 h.grow
theorem Acc.len{α : Type}{enc:α->List Value}{s:Nat}(hs:∀x,(enc x).length=s)(h0:0<s){m m1:Mem}{a:Option Addr}{n c:Nat}{e:TypeId}{l:List α}(h:Acc m m1 a n c s e (l.flatMap enc)):l.length=n:=(h.arr hs h0).1
inductive OwnSl (m0 m:Mem) (e:TypeId):Option Addr->Nat->Nat->List Value->Prop
 | nil:OwnSl m0 m e none 0 0 []
 | empty (b:Nat) (cc:Tr Value) (hb:m0.nx<=b) (hg:m.hp.get b=some (.cells cc 0 e false)):OwnSl m0 m e (some ⟨b,0,none⟩) 0 0 []
 | row (b n:Nat) (l:List Value) (hn:0<n) (hb:m0.nx<=b) (hr:Row m b l e true):OwnSl m0 m e (some ⟨b,0,none⟩) n n l
theorem OwnSl.cap{m0 m:Mem}{e:TypeId}{a:Option Addr}{n c:Nat}{l:List Value}(h:OwnSl m0 m e a n c l):c=n:=by cases h<;>rfl
theorem OwnSl.blk{m0 m:Mem}{e:TypeId}{a:Option Addr}{n c:Nat}{l:List Value}(h:OwnSl m0 m e a n c l):∀b∈blk a,m0.nx<=b:=by
 intro b hb;cases h with
 | nil=>cases hb
 | empty b' _ h _=>simp[AX.blk]at hb;omega
 | row b' _ _ _ h _=>simp[AX.blk]at hb;omega
theorem OwnSl.lt{m0 m:Mem}{e:TypeId}{a:Option Addr}{n c:Nat}{l:List Value}(h:OwnSl m0 m e a n c l)(hw:Wf m):∀b∈AX.blk a,b<m.nx:=by
 intro b hb;cases h with
 | nil=>cases hb
 | empty b' _ _ h=>simp[AX.blk]at hb;subst hb;exact hw.lt h
 | row b' _ _ _ _ h=>simp[AX.blk]at hb;subst hb;exact hw.row h
theorem OwnSl.fr{m0 m m':Mem}{S:List Nat}{e:TypeId}{a:Option Addr}{n c:Nat}{l:List Value}(h:OwnSl m0 m e a n c l)(hw:Wf m)(f:Fr m m' S)(hS:∀b∈AX.blk a,b∉S):OwnSl m0 m' e a n c l:=by
 have hlt:=h.lt hw;cases h with
 | nil=>exact .nil
 | empty b cc h hg=>exact .empty b cc h ((f.get b (hlt b (by simp[AX.blk])) (hS b (by simp[AX.blk]))).trans hg)
 | row b n l hn h hr=>exact .row b n l hn h (hr.congr (f.get b (hlt b (by simp[AX.blk])) (hS b (by simp[AX.blk]))))
theorem OwnSl.keep{m0 m m':Mem}{e:TypeId}{a:Option Addr}{n c:Nat}{l:List Value}(h:OwnSl m0 m e a n c l)(hw:Wf m)(k:Keep m m'):OwnSl m0 m' e a n c l:=h.fr hw (k.fr []) (fun _ _ h=>by cases h)
theorem OwnSl.old{m00 m0 m:Mem}{e:TypeId}{a:Option Addr}{n c:Nat}{l:List Value}(h:OwnSl m0 m e a n c l)(hn:m00.nx<=m0.nx):OwnSl m00 m e a n c l:=by
 cases h with
 | nil=>exact .nil
 | empty b cc h hg=>exact .empty b cc (by omega) hg
 | row b n l h0 h hr=>exact .row b n l h0 (by omega) hr
theorem OwnSl.arr{α : Type}{enc:α->List Value}{s:Nat}(hs:∀x,(enc x).length=s)(h0:0<s){m0 m:Mem}{e:TypeId}{a:Option Addr}{n c:Nat}{l:List α}(h:OwnSl m0 m e a n c (l.flatMap enc))(hl:l.length=n):Arr enc s m a n l:=by
 generalize hL:l.flatMap enc=L at h;cases h with
 | nil=>rw[List.length_eq_zero_iff.1 hl];exact jm.nil
 | empty b cc h hg=>rw[List.length_eq_zero_iff.1 hl];exact jm.nil
 | row b n L h0 h hr=>subst hL;rw[<-hl];exact Arr.of_row hs hr
theorem Arr.zero{α : Type}{enc:α->List Value}{s:Nat}{m:Mem}{n:Nat}{l:List α}(h:Arr enc s m none n l):n=0/\l=[]:=by
 cases l with
 | nil=>exact⟨h.1.symm,rfl⟩
 | cons x r=>obtain⟨b,o,e,_⟩:=h.2 0 x rfl;cases e
theorem sU{cx:Cx}{t e s:Nat}{α : Type}{enc:α->List Value}{l:List α}{a:Option Addr}{n c:Nat}{m:Mem}{Q:Value->Mem->Prop}(hp:oO cx t e s=true)(hs:∀x,(enc x).length=s)(ho:∀x,(enc x).all one1=true)(hw:Wf m)(ha:Arr enc s m a n l)(hn:n<=1000000)
  (h:∀m' a' c',Keep m m'->OwnSl m m' e a' n c' (l.flatMap enc)->Q (.slice a' n c') m') :
  ∃r:Bool,gj cx m 40 t (.slice a n c) (.slice none 0 0)=some r/\splitB r (Q (.slice none 0 0) m)
   (cY (newO m (row [] e false)) fun m1=>∃(a7:Option Addr) (n7 c7:Nat) (m2:Mem),cQ cx m1 [t,t] [.slice (some ⟨m.nx,0,none⟩) 0 0,.slice a n c]=some (.slice a7 n7 c7,m2)/\Q (.slice a7 n7 c7) m2):=by
 obtain⟨i,z,h1,h2,h3,h4,h5,h6,h7⟩:=jg hp;cases a with
 | none=>
  obtain⟨rfl,rfl⟩:=ha.zero;refine⟨true,?_,?_⟩
  .show gj cx m (39+1) t _ _=_;unfold gj;simp only[h1,Option.isNone_none]
  .rw[eG];exact h m none 0 (Keep.refl hw) .nil
 | some ad=>
  refine⟨false,?_,?_⟩
  .show gj cx m (39+1) t _ _=_;unfold gj;simp only[h1]
  rw[gk,cO];have k1:Keep m (newO m (row [] e false)):=(Keep.refl hw).newO;have hb:(newO m (row [] e false)).hp.get m.nx=some (.cells (ec .nil [] 0) 0 e false):=by rw[kM,if_pos rfl];rfl
  have n1:(newO m (row [] e false)).nx=m.nx+1:=rfl;generalize newO m (row [] e false)=m1 at k1 hb n1;have ha1:=ha.keep hw k1;have hl:=ha.1;by_cases hn0:n=0
  .subst hn0;have hl0:l=[]:=List.length_eq_zero_iff.1 hl;subst hl0;refine⟨some ⟨m.nx,0,none⟩,0,0,m1,?_,h m1 _ _ k1 (.empty m.nx _ (gQ4 _) hb)⟩;unfold cQ;simp only[h1,h2,mE,iR,dA];have b1:(Nat.beq ([]:List Value).length (0*i.size)&&Nat.blt 0 i.size&&([]:List Value).all one1)=true:=by
    rw[h3,Nat.zero_mul,show Nat.blt 0 s=true from gQ8 h6];rfl
   simp only[b1]
  .have hap:=sE (cx:=cx) (t:=t) (e:=e) (s:=s) (m:=m1) (n:=0) (k:=n) (c:=0) (ck:=c) (a:=some ⟨m.nx,0,none⟩) (v:=some ad) (old:=[]) (new:=l.flatMap enc) hp
    (by unfold giveUp;simp only[hb]) rfl (by simp) (ha1.first hs h6) (by rw[dm hs,hl]) (by
     rw[List.all_eq_true];intro v hv;obtain⟨x,_,hx⟩:=List.mem_flatMap.1 hv;exact List.all_eq_true.1 (ho x) v hx) (by omega) (by omega)
   rw[List.nil_append,Nat.zero_add]at hap;refine⟨_,_,_,_,hap,h _ _ _ k1.newO (.row m1.nx n _ (by omega) (by omega) Row.newO)⟩
theorem Qh{α β γ α' β' γ':Type}{n:Nat}{m:Mem}{a0:α}{b0:β}{c0:γ}{d0:α'}{e0:β'}{f0:γ'}{B:(α->β->γ->α'->β'->γ'->Int->Mem->Nat->Prop)->α->β->γ->α'->β'->γ'->Int->Mem->Nat->Prop}(hn:n<=4611686018427387904)(R:Nat->α->β->γ->α'->β'->γ'->Mem->Prop)(h0:R 0 a0 b0 c0 d0 e0 f0 m)
  (hs:∀k a b c d e f m1,k<=n->R k a b c d e f m1->∀I w,(∀a' b' c' d' e' f' m2,k<n->R (k+1) a' b' c' d' e' f' m2->∃n',n'<w/\I a' b' c' d' e' f' (bh .i64 (k:Int) 1) m2 n')->B I a b c d e f (k:Int) m1 w) :
  ∃Inv:α->β->γ->α'->β'->γ'->Int->Mem->Nat->Prop,(∃w,Inv a0 b0 c0 d0 e0 f0 0 m w)/\∀a b c d e f x m1 w,Inv a b c d e f x m1 w->B Inv a b c d e f x m1 w:=by
 refine⟨fun a b c d e f x m1 w=>∃k:Nat,x=(k:Int)/\k<=n/\w=n-k/\R k a b c d e f m1,⟨n,0,rfl,Nat.zero_le _,rfl,h0⟩,?_⟩;rintro a b c d e f x m1 w ⟨k,rfl,hk,rfl,hR⟩;exact hs k a b c d e f m1 hk hR _ _ fun a' b' c' d' e' f' m2 hlt h=>⟨n-(k+1),by omega,k+1,ww hn hlt,by omega,rfl,h⟩
theorem rz{cx:Cx}{m:Mem}{t e s n c:Nat}{a xa:Option Addr}{L vs:List Value}(hp:oO cx t e s=true)(hw:Wf m)(hG:Grow m a n c s e L)(hx:dA m s 1 (.slice xa 1 1)=some vs)(hvs:vs.length=s)(ho:vs.all one1=true)(hn:n<=1000000) :
  ∃m',cQ cx m [t,t] [.slice a n c,.slice xa 1 1]=some (.slice (some ⟨m.nx,0,none⟩) (n+1) (n+1),m')/\Wf m'/\Fr m m' (blk a)/\m'.nx=m.nx+1/\Row m' m.nx (L++vs) e true:=by
 obtain⟨i,z,h1,h2,h3,h4,h5,h6,h7⟩:=jg hp;have hbb:(2*(n+1)+192)*i.bytes<=140737488355328:=by
  have h1:(2*(n+1)+192)<=2000194:=by omega
  have h2:=Nat.mul_le_mul h1 h7;omega
 obtain⟨m',q1,q2,q3,q4,q5⟩:=oF hG h1 h1 rfl h2 h3 h4 h5 h6 (x:=.slice xa 1 1) (k:=1) rfl hx (by omega) ho (by omega) hbb (by omega);have hbl:=hG.blk_lt hw;have q5':∀b',b'≠m.nx->b'∉blk a->m'.hp.get b'=m.hp.get b':=fun b' h1 h2=>q5 b' h1 (fun b e e'=>h2 (by rw[e,e'];simp[blk]))
 refine⟨m',q1,⟨by have:=hw.1;omega,fun b hb=>?_⟩,⟨by omega,q3,fun b hb hn'=>q5' b (by omega) hn'⟩,q2,q4⟩;rw[q5' b (by omega) (fun h=>by have:=hbl b h;omega)];exact hw.2 b (by omega)
theorem wL{cx:Cx}{m0 m:Mem}{t e s n c:Nat}{a xa:Option Addr}{L vs:List Value}(hp:oO cx t e s=true)(hw:Wf m)(hfl:m.fl<=m0.nx)(ho:OwnSl m0 m e a n c L)(hL:L.length=n*s)(hx:dA m s 1 (.slice xa 1 1)=some vs)(hvs:vs.length=s)(h1:vs.all one1=true)(hn:n<=900000) :
  ∃m',cQ cx m [t,t] [.slice a n c,.slice xa 1 1]=some (.slice (some ⟨m.nx,0,none⟩) (n+1) (n+1),m')/\Wf m'/\Fr m m' (blk a)/\m'.nx=m.nx+1/\Row m' m.nx (L++vs) e true:=by
 cases ho with
 | nil=>exact rz hp hw (Grow.nil _ _ _) hx hvs h1 (by omega)
 | row b n l h0 hb hr=>exact rz hp hw ⟨hL,.inr ⟨b,rfl,rfl,by omega,hr⟩⟩ hx hvs h1 (by omega)
 | empty b cc hb hg=>
  have hap:=sE (cx:=cx) (t:=t) (e:=e) (s:=s) (m:=m) (n:=0) (k:=1) (c:=0) (ck:=1) (a:=some ⟨b,0,none⟩) (v:=xa) (old:=[]) (new:=vs) hp
   (by unfold giveUp;simp only[hg]) rfl (by simp) hx (by omega) h1 (by omega) (by omega)
  rw[List.nil_append]at hap;refine⟨_,hap,hw.newO,(Fr.refl m _).newO,rfl,?_⟩;exact Row.newO
theorem Acc.push'{cx:Cx}{m m1:Mem}{a xa:Option Addr}{n c s e t:Nat}{l vs:List Value}(h:Acc m m1 a n c s e l)(hp:oO cx t e s=true)(hx:dA m1 s 1 (.slice xa 1 1)=some vs)(hvs:vs.length=s)(ho:vs.all one1=true)(hn:n<=1000000) :
  ∃m4,cQ cx m1 [t,t] [.slice a n c,.slice xa 1 1]=some (.slice (some ⟨m1.nx,0,none⟩) (n+1) (n+1),m4)/\
   Acc m m4 (some ⟨m1.nx,0,none⟩) (n+1) (n+1) s e (l++vs)/\Wf m4/\Fr m1 m4 (blk a)/\m4.nx=m1.nx+1:=by
 obtain⟨m4,h1,h2,h3,h4,h5⟩:=rz hp h.keep.wf h.grow hx hvs ho hn;have k4:=Keep.of_fr h.keep h2 h3 h.new;have hgl:=h.grow.1;refine⟨m4,h1,⟨k4,⟨by rw[gR2,hgl,hvs,Nat.succ_mul],.inr ⟨_,rfl,rfl,?_,h5⟩⟩,fun b hb=>?_⟩,h2,h3,h4⟩
 .have:=k4.fl;have:=h.keep.fl;have:=h.keep.wf.1;omega
 .simp[blk]at hb;have:=h.keep.nx;omega
theorem Arr.fr{α : Type}{enc:α->List Value}{s:Nat}{m m':Mem}{S:List Nat}{a:Option Addr}{n:Nat}{l:List α}(h:Arr enc s m a n l)(hw:Wf m)(f:Fr m m' S)(hS:∀b∈blk a,b∉S):Arr enc s m' a n l:=
 ⟨h.1,fun i x hx=>by
  obtain⟨b,o,rfl,hc⟩:=h.2 i x hx;exact⟨b,o,rfl,fun j v hv=>Qf f hw (hc j v hv) (hS b (by simp[blk]))⟩⟩
theorem Row.first1{m:Mem}{b s:Nat}{vs:List Value}{e:TypeId}{x:Bool}(h:Row m b vs e x)(hs:vs.length=s):dA m s 1 (.slice (some ⟨b,0,none⟩) 1 1)=some vs:=by
 simp only[dA];have:=h.rowAt (o:=0) (k:=1*s) (by omega);rw[this];congr 1;rw[List.drop_zero,List.take_of_length_le (by omega)]
theorem OwnSl.hp{m0 m m0' m':Mem}{e:TypeId}{a:Option Addr}{n c:Nat}{l:List Value}(h:OwnSl m0 m e a n c l)(hn:m0'.nx<=m0.nx)(hh:m'.hp=m.hp):OwnSl m0' m' e a n c l:=by
 cases h with
 | nil=>exact .nil
 | empty b cc h1 hg=>exact .empty b cc (Nat.le_trans hn h1) (by rw[hh];exact hg)
 | row b n l h0 h1 hr=>exact .row b n l h0 (Nat.le_trans hn h1) (hr.congr (by rw[hh]))
theorem Arr.hp{α : Type}{enc:α->List Value}{s:Nat}{m m':Mem}{a:Option Addr}{n:Nat}{l:List α}(h:Arr enc s m a n l)(hh:m'.hp=m.hp):Arr enc s m' a n l:=
 ⟨h.1,fun i x hx=>by
  obtain⟨b,o,e,hc⟩:=h.2 i x hx;exact⟨b,o,e,fun j v hv=>(tf (m:=m) (m':=m') (b:=b) (o:=o+i*s+j) (by rw[hh])).trans (hc j v hv)⟩⟩
end Go.AX
namespace Go.AX
open Go
noncomputable section
def BR(cx:Cx)(e:TypeId):Bool:=match fB cx e with
 | some z=>(bQ z).all one1
 | none=>false
theorem qO(z:List Value):∀n,(ey z n).length=n*z.length
 | 0=>by simp[ey]
 | n+1=>by show (z++ey z n).length=_;rw[gR2,qO z n,Nat.succ_mul];omega
theorem AN{z:List Value}(h:z.all one1=true):∀n,(ey z n).all one1=true
 | 0=>rfl
 | n+1=>by show (z++ey z n).all one1=true;rw[List.all_append,h,AN h n];rfl
theorem H6{cx:Cx}{m:Mem}{t e tx s n:Nat}(hp:oO cx t e s=true)(htx:cx.un.get tx=some (.int .i64))(hz:BR cx e=true)(h0:0<n)(hn:n<=1000000) :
  ∃Z,Z.length=n*s/\cQ cx m [t,tx] [.slice none 0 0,.int .i64 (n:Int)]=some (.slice (some ⟨m.nx,0,none⟩) n n,newO m (row Z e true)):=by
 obtain⟨i,z,h1,h2,h3,h4,h5,h6,h7⟩:=jg hp;subst h3;have hz1:(bQ z).all one1=true:=by unfold BR at hz;rw[h4]at hz;exact hz
 have hb1:(2*(0+n)+192)*i.bytes<=140737488355328:=by
  have h1:(2*(0+n)+192)<=2000192:=by omega
  have h2:=Nat.mul_le_mul h1 h7;omega
 have hb2:n*i.bytes<=281474976710656:=by
  have h2:=Nat.mul_le_mul hn h7;omega
 refine⟨ey (bQ z) n,by rw[qO,h5],?_⟩;unfold cQ;simp only[h1,htx,h2,mE,iR];unfold lj;have c1:(decide (0<=(n:Int))&&decide ((n:Int)<=1000000000)&&Nat.ble ((n:Int).toNat*i.bytes) 281474976710656&&Nat.beq (bQ z).length i.size&&Nat.blt 0 i.size)=true:=by
  rw[Int.toNat_natCast,decide_eq_true (show (0:Int)<=n by omega),decide_eq_true (show (n:Int)<=1000000000 by omega),gQ8 hb2,h5,Nat.beq_refl,show Nat.blt 0 i.size=true from gQ8 h6];rfl
 simp only[Bi,h4,c1];rw[Int.toNat_natCast];unfold kh;have c2:(Nat.beq (ey (bQ z) n).length (n*i.size)&&Nat.blt 0 i.size&&(ey (bQ z) n).all one1)=true:=by
  rw[qO,h5,Nat.beq_refl,show Nat.blt 0 i.size=true from gQ8 h6,AN hz1];rfl
 have c3:Nat.ble (0+n) 0=false:=by
  cases h:Nat.ble (0+n) 0 with
  | false=>rfl
  | true=>have:=gQ6 h;omega
 have c4:(Nat.ble ((2*(0+n)+192)*i.bytes) 140737488355328&&Nat.ble (0+n) 1099511627776)=true:=by
  rw[gQ8 hb1,gQ8 (by omega)];rfl
 have c5:dA m i.size 0 (.slice none 0 0)=some []:=rfl;have c6:giveUp m none e i.size 0=some m:=rfl;have c7:(Nat.beq ([]:List Value).length (0*i.size)&&Nat.beq (bQ z).length i.size)=true:=by
  rw[h5,Nat.zero_mul,Nat.beq_refl];rfl
 simp only[c2,c3,c4,c5,h4,c6,c7];rw[Nat.zero_add,List.nil_append];rfl
theorem yN{cx:Cx}{m:Mem}{t e s n k d ck b:Nat}{a:Option Addr}{L vs:List Value}{x:Bool}(hp:oO cx t e s=true)(hR:Row m b L e x)(hL:L.length=n*s)(hfl:m.fl<=b)(hx:dA m s d (.slice a d ck)=some vs)(hvs:vs.length=d*s)(ho:vs.all one1=true)(hk:k+d<=n) :
  ∃m',cQ cx m [t,t] [.slice (some ⟨b,0,none⟩) k n,.slice a d ck]=some (.slice (some ⟨b,0,none⟩) (k+d) n,m')/\Row m' b (L.take (k*s)++vs++L.drop ((k+d)*s)) e x/\(∀b',b'≠b->m'.hp.get b'=m.hp.get b')/\m'.nx=m.nx/\m'.fl=m.fl:=by
 obtain⟨i,z,h1,h2,h3,h4,h5,h6,h7⟩:=jg hp;subst h3;have c1:(Nat.beq vs.length (d*i.size)&&Nat.blt 0 i.size&&vs.all one1)=true:=by
  rw[hvs,Nat.beq_refl,show Nat.blt 0 i.size=true from gQ8 h6,ho];rfl
 have hle:(k+d)*i.size<=n*i.size:=Nat.mul_le_mul_right _ hk;rw[Nat.add_mul]at hle;unfold cQ;simp only[h1,h2,mE,iR,hx,c1,gQ8 hk];cases hv:vs with
 | nil=>
  have hd:d*i.size=0:=by rw[<-hvs,hv];rfl
  refine⟨m,rfl,?_,fun _ _=>rfl,rfl,rfl⟩;rw[List.append_nil,Nat.add_mul,hd,Nat.add_zero,List.take_append_drop];exact hR
 | cons v r=>
  rw[<-hv];have hok:okW m b (0+k*i.size) vs.length:=hR.okW hfl (by rw[hvs,hL];omega);have hst:=jf hok ho;refine⟨wr m b (0+k*i.size) vs,?_,?_,fun b' hb'=>ln hb',by simp,by simp⟩
  .rw[hv]at hst ⊢;show (match iQ m (ng ⟨b,0,none⟩ (k*i.size)) (v::r)with|some m'=>some (Value.slice (some ⟨b,0,none⟩) (k+d) n,m')|none=>none)=_;rw[show ng ⟨b,0,none⟩ (k*i.size)=⟨b,0+k*i.size,none⟩from rfl,hst]
  .have:=hR.wr (o:=0+k*i.size) (vs:=vs) (by rw[hvs,hL];omega);rw[Nat.zero_add]at this ⊢;unfold over at this;rw[hvs]at this;rw[Nat.add_mul];exact this
theorem MI{X Y V:List Value}(h:Y.length=V.length):over (X++Y) X.length V=X++V:=by
 unfold over;rw[List.take_left,List.drop_eq_nil_of_le (by rw[gR2];omega),List.append_nil]
theorem Gv{cx:Cx}{m:Mem}{t e s b n i:Nat}{L:List Value}(hp:oO cx t e s=true)(hz:BR cx e=true)(hw:Wf m)(hR:Row m b L e true)(hL:L.length=n*s)(hi:i<n)(hfl:m.fl<=b)(hone:L.all one1=true) :
  (∃a n' c',cX cx m t (.slice (some ⟨b,0,none⟩) n n) (some (.int .i64 (i:Int))) (some (.int .i64 ((i+1:Nat):Int))) (some (.int .i64 (aQ n)))=some (.slice a n' c'))/\
  cX cx (bump m 8) t (.slice (some ⟨b,0,none⟩) n n) none (some (.int .i64 (i:Int))) none=some (.slice (some ⟨b,0,none⟩) i n)/\
  cX cx (bump m 8) t (.slice (some ⟨b,0,none⟩) n n) (some (.int .i64 ((i+1:Nat):Int))) none none=some (.slice (some ⟨b,0+(i+1)*s,none⟩) (n-(i+1)) (n-(i+1)))/\
  ∃m1,cQ cx (bump m 8) [t,t] [.slice (some ⟨b,0,none⟩) i n,.slice (some ⟨b,0+(i+1)*s,none⟩) (n-(i+1)) (n-(i+1))]=some (.slice (some ⟨b,0,none⟩) (i+(n-(i+1))) n,m1)/\
   cX cx m1 t (.slice (some ⟨b,0,none⟩) (i+(n-(i+1))) n) (some (.int .i64 (aQ (i+(n-(i+1)))))) (some (.int .i64 (aQ n))) none=some (.slice (some ⟨b,0+(i+(n-(i+1)))*s,none⟩) (n-(i+(n-(i+1)))) (n-(i+(n-(i+1)))))/\
   ∃m2 Z,lm cx m1 [t] [.slice (some ⟨b,0+(i+(n-(i+1)))*s,none⟩) (n-(i+(n-(i+1)))) (n-(i+(n-(i+1))))]=some (.tuple #[],m2)/\Row m2 b (L.take (i*s)++L.drop ((i+1)*s)++Z) e true/\(∀b',b'≠b->m2.hp.get b'=m.hp.get b')/\m2.nx=m.nx+8/\m2.fl=m.fl:=by
 obtain⟨inf,z,h1,h2,h3,h4,h5,h6,h7⟩:=jg hp;have hsz:dO cx e=some s:=by unfold dO;rw[h2,<-h3]
 have hR8:Row (bump m 8) b L e true:=hR.congr rfl;have hd:(i+1)*s<=n*s:=Nat.mul_le_mul_right _ hi;have hd2:(n-(i+1))*s=n*s-(i+1)*s:=Nat.sub_mul _ _ _;have hz1:(bQ z).all one1=true:=by unfold BR at hz;rw[h4]at hz;exact hz
 refine⟨?_,?_,?_,?_⟩
 .have e1:fi n (some (.int .i64 (aQ n))) n=some n:=dC (gQ4 _);have e2:fi n (some (.int .i64 ((i+1:Nat):Int))) n=some (i+1):=dC hi;have e3:fi 0 (some (.int .i64 (i:Int))) (i+1)=some i:=dC (Nat.le_succ _);have e4:Nat.beq (n-i) 0=false:=Tr.beq_false.2 (by omega);unfold cX;simp only[h1,hsz,e1,e2,e3,e4];exact⟨_,_,_,rfl⟩
 .have:=eR (cx:=cx) (m:=bump m 8) (t:=t) (e:=e) (s:=s) (b:=b) (o:=0) (n:=n) (c:=n) (lo:=none) (hi:=some (.int .i64 (i:Int))) (i:=0) (j:=i) h1 hsz (dC (by omega)) rfl (hR8.sameSize hsz) (by omega);simpa using this
 .exact eR (lo:=some (.int .i64 ((i+1:Nat):Int))) (hi:=none) h1 hsz rfl (dC hi) (hR8.sameSize hsz) (gQ4 _)
 .have hf:dA (bump m 8) s (n-(i+1)) (.slice (some ⟨b,0+(i+1)*s,none⟩) (n-(i+1)) (n-(i+1)))=some (L.drop ((i+1)*s)):=by
   cases hk:n-(i+1)with
   | zero=>
    have:L.drop ((i+1)*s)=[]:=List.drop_eq_nil_of_le (by rw[hk]at hd2;omega);rw[this];rfl
   | succ k=>
    simp only[dA];have:=hR8.rowAt (o:=0+(i+1)*s) (k:=(k+1)*s) (by rw[hL,<-hk,hd2];omega);rw[this];congr 1;rw[List.take_of_length_le (by rw[List.length_drop,hL,<-hk,hd2];omega),Nat.zero_add]
  obtain⟨m1,q1,q2,q3,q4,q5⟩:=yN (cx:=cx) (t:=t) (e:=e) (s:=s) (n:=n) (k:=i) (d:=n-(i+1)) (ck:=n-(i+1)) hp hR8 hL hfl hf (by rw[List.length_drop,hL,hd2]) (by
   rw[List.all_eq_true]at hone ⊢;exact fun v hv=>hone v (List.mem_of_mem_drop hv)) (by omega)
  refine⟨m1,q1,?_,?_⟩
  .exact eR (lo:=some (.int .i64 (aQ (i+(n-(i+1)))))) (hi:=some (.int .i64 (aQ n))) h1 hsz (dC (gQ4 _)) (dC (i:=i+(n-(i+1))) (by omega)) (q2.sameSize hsz) (gQ4 _)
  .have hn1:n-(i+(n-(i+1)))=1:=by omega
   have hn2:i+(n-(i+1))=n-1:=by omega
   rw[hn1,hn2];rw[hn2]at q2;have hn3:(n-1)*s+s=n*s:=by rw[<-Nat.succ_mul];congr 1;omega
   have hlen:(L.take (i*s)++L.drop ((i+1)*s)).length=(n-1)*s:=by
    rw[gR2,List.length_take,List.length_drop,hL];have e0:i*s<=n*s:=Nat.mul_le_mul_right _ (by omega);have e1:(i+1)*s=i*s+s:=Nat.succ_mul i s;generalize (i+1)*s=X at *;generalize (n-1)*s=Y at *;omega
   have hlen2:(L.drop ((n-1)*s)).length=s:=by rw[List.length_drop,hL];omega
   have hok:okW m1 b (0+(n-1)*s) (ey (bQ z) 1).length:=q2.okW (by rw[q5];exact hfl) (by rw[qO,h5,gR2,hlen,hlen2];omega);have hst:=jf hok (AN hz1 1);refine⟨wr m1 b (0+(n-1)*s) (ey (bQ z) 1),ey (bQ z) 1,?_,?_,fun b' hb'=>?_,by simp[q4],by simp[q5]⟩
   .unfold lm;have hb0:Nat.blt 0 (bQ z).length=true:=by rw[h5];exact gQ8 h6
    simp only[h1,h4,hb0,hst]
   .have:=q2.wr (o:=0+(n-1)*s) (vs:=ey (bQ z) 1) (by rw[qO,h5,gR2,hlen,hlen2];omega);have e1:over (L.take (i*s)++L.drop ((i+1)*s)++L.drop ((n-1)*s)) (0+(n-1)*s) (ey (bQ z) 1)=L.take (i*s)++L.drop ((i+1)*s)++ey (bQ z) 1:=by
     have e2:=MI (X:=L.take (i*s)++L.drop ((i+1)*s)) (Y:=L.drop ((n-1)*s)) (V:=ey (bQ z) 1) (by rw[hlen2,qO,h5];omega);rw[hlen]at e2;rw[Nat.zero_add];exact e2
    rw[e1]at this;exact this
   .rw[ln hb',q3 b' hb'];rfl
end
end Go.AX
