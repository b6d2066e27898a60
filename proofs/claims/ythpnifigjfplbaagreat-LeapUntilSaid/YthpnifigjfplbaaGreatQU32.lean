import Derived.Test.YthpnifigjfplbaaGreatQU31
import Derived.Test.YthpnifigjfplbaaGreatQU01
import Derived.Test.YthpnifigjfplbaaGreatQU19
import Derived.Test.YthpnifigjfplbaaGreatQU21
import Derived.Test.YthpnifigjfplbaaGreatQU29
import Derived.KernelRfl
import Derived.Test.YthpnifigjfplbaaGreatQU24
import Derived.Test.YthpnifigjfplbaaGreatQU22
set_option linter.unusedVariables false
set_option linter.unusedSimpArgs false
namespace Go.Proofs.YthpnifigjfplbaaGreat.vc
open Go Go.AX
noncomputable section
def fp(x:pl.E):List Value:=[.int .i64 x.1,.int .i64 x.2.1,.bool x.2.2]
def Dm:List Value->Option (List pl.E)
 | []=>some []
 | .int .i64 a::.int .i64 b::.bool c::r=>match Dm r with
  | some l=>some ((a,b,c)::l)
  | none=>none
 | _=>none
theorem Ey:∀l:List pl.E,Dm (l.flatMap fp)=some l
 | []=>rfl
 | (a,b,c)::l=>by
  show (match Dm (l.flatMap fp)with|some l=>some ((a,b,c)::l)|none=>none)=_;rw[Ey l]
theorem OV{l:List Value}{xs:List pl.E}(h:Dm l=some xs):l=xs.flatMap fp:=by
 fun_induction Dm l generalizing xs with
 | case1=>cases h;rfl
 | case2 a b c r l hl ih=>
  cases h;rw[ih hl];rfl
 | case3=>cases h
 | case4=>cases h
def A4:List Value->Mem->Option (Value×Mem):=qe 3 (BX fp Dm pl.srt) [.func (.func fA) #[] #[]]
def xq:List Value->Mem->Option (Value×Mem):=qe 1 BW []
def Cs:List Value->Mem->Option (Value×Mem):=pX vc0.cx cP dr 11 104
def wh:List (Nat×(List Value->Mem->Option (Value×Mem))):=[(kR,sF),(fO,xq),(eQ,A4),(fb,Cs)]
def ov:Tr (List Value->Mem->Option (Value×Mem)):=wh.foldr (fun x t=>t.put x.1 x.2) .nil
def cx:Cx:=Cx.of Tryz.prog ov
theorem Jr:CxOk Tryz.prog cx:=CxOk.of _ _
theorem Nh:cx.ov.get kR=some sF:=by
 show (wh.foldr (fun x t=>Tr.put t x.1 x.2) .nil).get _=_;simp only[wh,List.foldr_cons,List.foldr_nil,Tr.get_put];rfl
theorem Il:cx.ov.get fO=some xq:=by
 show (wh.foldr (fun x t=>Tr.put t x.1 x.2) .nil).get _=_;simp only[wh,List.foldr_cons,List.foldr_nil,Tr.get_put];rfl
theorem Lk:cx.ov.get eQ=some A4:=by
 show (wh.foldr (fun x t=>Tr.put t x.1 x.2) .nil).get _=_;simp only[wh,List.foldr_cons,List.foldr_nil,Tr.get_put];rfl
theorem Ig:cx.ov.get fb=some Cs:=by
 show (wh.foldr (fun x t=>Tr.put t x.1 x.2) .nil).get _=_;simp only[wh,List.foldr_cons,List.foldr_nil,Tr.get_put];rfl
theorem Ik:cx.ov=wh.foldr (fun x t=>Tr.put t x.1 x.2) .nil:=rfl
theorem OW:Gd A4:=HZ
theorem OX:Ge A4:=H0
theorem Ni:Gd xq:=HZ
theorem Nj:Ge xq:=H0
theorem Nk:Gd Cs:=Oj
theorem Nl:Ge Cs:=Ol
theorem di:oo cx:=Ko Ik fun x hx=>by
 simp only[wh,List.mem_cons,List.not_mem_nil,or_false]at hx;rcases hx with h|h|h|h<;>rw[h]
 .exact Mq
 .exact Ni
 .exact OW
 .exact Nk
theorem db:mG cx:=Kp Ik fun x hx=>by
 simp only[wh,List.mem_cons,List.not_mem_nil,or_false]at hx;rcases hx with h|h|h|h<;>rw[h]
 .exact Mr
 .exact Nj
 .exact OX
 .exact Nl
end
end Go.Proofs.YthpnifigjfplbaaGreat.vc
namespace Go.Proofs.YthpnifigjfplbaaGreat.vc
open Go Go.AX
set_option maxRecDepth 100000
noncomputable section
def Ap(a:Int)(m:Mem)(Q:Value->Mem->Prop):Prop:=
 splitB (leI 0 a) (Q (.bool (leI a 4611686018427387904)) m) (Q (.bool false) m)
theorem Dj{a:Int}{m:Mem}{Q:Value->Mem->Prop}(h:Ap a m Q):ah cx iO [.int .i64 a] m Q:=
 ah.of (fn:=Tryz.f130) (LS:=[]) (ann:=[]) di db (by kernel_rfl) (by kernel_rfl) (Eq.mp (by kernel_rfl) h)
def Aq(c:Int)(m:Mem)(Q:Value->Mem->Prop):Prop:=
 ah cx iO [.int .i64 c] m fun d b=>∃a,d=(.bool a)/\splitB (!a) (Q (.tuple #[.int .i64 0,.bool false]) b) (Q (.tuple #[.int .i64 c,.bool true]) b)
theorem Dk{c:Int}{m:Mem}{Q:Value->Mem->Prop}(h:Aq c m Q):ah cx rn [.int .i64 c] m Q:=
 ah.of (fn:=Tryz.f145) (LS:=[]) (ann:=[]) di db (by kernel_rfl) (by kernel_rfl) (Eq.mp (by kernel_rfl) h)
def Eo(a b c:Int)(m:Mem)(Q:Value->Mem->Prop):Prop:=
 splitB (leI b a) (Q (.bool (leI a c)) m) (Q (.bool false) m)
theorem GW{a b c:Int}{m:Mem}{Q:Value->Mem->Prop}(h:Eo a b c m Q):ah cx pJ [.int .i64 a,.int .i64 b,.int .i64 c] m Q:=
 ah.of (fn:=Tryz.f144) (LS:=[]) (ann:=[]) di db (by kernel_rfl) (by kernel_rfl) (Eq.mp (by kernel_rfl) h)
def Ci(n j:Int)(m:Mem)(Q:Value->Mem->Prop):Prop:=
 dJ (fun(g:Mem)=>ah cx rn [.int .i64 (bh .i64 n j)] g fun l k=>∃d a,l=(.tuple #[.int .i64 d,.bool a])/\Q (.tuple #[.int .i64 d,.bool a]) k) fun o=>ah cx iO [.int .i64 n] m fun i c=>∃b,i=(.bool b)/\splitB (!b) (Q (.tuple #[.int .i64 0,.bool false]) c) (ah cx iO [.int .i64 j] c fun p e=>∃f,p=(.bool f)/\splitB (!f) (Q (.tuple #[.int .i64 0,.bool false]) e) (o e))
theorem E6{n j:Int}{m:Mem}{Q:Value->Mem->Prop}(h:Ci n j m Q):ah cx xk [.int .i64 n,.int .i64 j] m Q:=
 ah.of (fn:=Tryz.f131) (LS:=[]) (ann:=[none,some ⟨[0,1],[],[],[],[],0⟩]) di db (by kernel_rfl) (by kernel_rfl) (Eq.mp (by kernel_rfl) h)
def yZ(l k a:Int)(m:Mem)(Q:Value->Mem->Prop):Prop:=
 dJ (fun(i:Mem)=>a≠0/\Q (.tuple #[.int .i64 (ot .i64 (io .i64 l k) a),.bool true]) i) fun n=>ah cx pJ [.int .i64 l,.int .i64 0,.int .i64 2147483648] m fun j d=>∃f,j=(.bool f)/\splitB (!f) (Q (.tuple #[.int .i64 0,.bool false]) d) (ah cx pJ [.int .i64 a,.int .i64 1,.int .i64 2147483648] d fun p c=>∃g,p=(.bool g)/\splitB (!g) (Q (.tuple #[.int .i64 0,.bool false]) c) (ah cx pJ [.int .i64 k,.int .i64 0,.int .i64 a] c fun o e=>∃b,o=(.bool b)/\splitB (!b) (Q (.tuple #[.int .i64 0,.bool false]) e) (n e)))
theorem Cj{l k a:Int}{m:Mem}{Q:Value->Mem->Prop}(h:yZ l k a m Q):ah cx tY [.int .i64 l,.int .i64 k,.int .i64 a] m Q:=
 ah.of (fn:=Tryz.f132) (LS:=[]) (ann:=[none,some ⟨[0,1,2],[],[],[],[],0⟩]) di db (by kernel_rfl) (by kernel_rfl) (Eq.mp (by kernel_rfl) h)
def Ep(k a b:Int)(m:Mem)(Q:Value->Mem->Prop):Prop:=
 dJ (fun(c:Mem)=>splitB (cR k a) (Q (.tuple #[.int .i64 a,.bool true]) c) (b≠0/\(ah cx rn [.int .i64 (bh .i64 a (io .i64 (bh .i64 (ot .i64 (de .i64 k a) b) 1) b))] c fun o q=>∃l f,o=(.tuple #[.int .i64 l,.bool f])/\Q (.tuple #[.int .i64 l,.bool f]) q))) fun r=>ah cx iO [.int .i64 k] m fun p d=>∃j,p=(.bool j)/\splitB (!j) (Q (.tuple #[.int .i64 0,.bool false]) d) (ah cx iO [.int .i64 a] d fun s i=>∃n,s=(.bool n)/\splitB (!n) (Q (.tuple #[.int .i64 0,.bool false]) i) (ah cx pJ [.int .i64 b,.int .i64 1,.int .i64 2147483648] i fun t e=>∃g,t=(.bool g)/\splitB (!g) (Q (.tuple #[.int .i64 0,.bool false]) e) (r e)))
theorem GX{k a b:Int}{m:Mem}{Q:Value->Mem->Prop}(h:Ep k a b m Q):ah cx za [.int .i64 k,.int .i64 a,.int .i64 b] m Q:=
 ah.of (fn:=Tryz.f112) (LS:=[]) (ann:=[none,some ⟨[0,1,2],[],[],[],[],0⟩]) di db (by kernel_rfl) (by kernel_rfl) (Eq.mp (by kernel_rfl) h)
def Ck(b a:Int)(m:Mem)(Q:Value->Mem->Prop):Prop:=
 splitB (leI 1 a) (splitB (leI a 2147483648) (splitB (leI 1 b) (Q (.bool (leI b a)) m) (Q (.bool false) m)) (Q (.bool false) m)) (Q (.bool false) m)
theorem E8{b a:Int}{m:Mem}{Q:Value->Mem->Prop}(h:Ck b a m Q):ah cx sM [.int .i64 b,.int .i64 a] m Q:=
 ah.of (fn:=Tryz.f124) (LS:=[]) (ann:=[]) di db (by kernel_rfl) (by kernel_rfl) (Eq.mp (by kernel_rfl) h)
def Er(d e:Int)(m:Mem)(Q:Value->Mem->Prop):Prop:=
 ah cx sM [.int .i64 d,.int .i64 e] (bump m 1) fun c b=>∃a,c=(.bool a)/\splitB (!a) (Q (.tuple #[.agg #[.int .i64 0,.int .i64 0,.int .i64 0,.int .i64 0,.int .i64 0],.int .i64 1]) b) (Q (.tuple #[.agg #[.int .i64 d,.int .i64 e,.int .i64 0,.int .i64 0,.int .i64 0],.int .i64 0]) b)
theorem GY{d e:Int}{m:Mem}{Q:Value->Mem->Prop}(h:Er d e m Q):ah cx zb [.int .i64 d,.int .i64 e] m Q:=
 ah.of (fn:=Tryz.f85) (LS:=[4]) (ann:=[]) di db (by kernel_rfl) (by kernel_rfl) (Eq.mp (by kernel_rfl) h)
def Cl(g l c k e:Int)(m:Mem)(Q:Value->Mem->Prop):Prop:=
 ah cx sM [.int .i64 g,.int .i64 l] (bump m 1) fun j b=>∃d,j=(.bool d)/\splitB d (splitB (leI 0 c) (splitB (leI c g) (ah cx iO [.int .i64 k] b fun i a=>∃f,i=(.bool f)/\splitB f (splitB (leI 0 e) (splitB (leI e 2) (splitB (dT e 1) (Q (.bool true) a) (Q (.bool (cR 0 c)) a)) (Q (.bool false) a)) (Q (.bool false) a)) (Q (.bool false) a)) (Q (.bool false) b)) (Q (.bool false) b)) (Q (.bool false) b)
theorem Fa{g l c k e:Int}{m:Mem}{Q:Value->Mem->Prop}(h:Cl g l c k e m Q):ah cx lX [.agg #[.int .i64 g,.int .i64 l,.int .i64 c,.int .i64 k,.int .i64 e]] m Q:=
 ah.of (fn:=Tryz.f111) (LS:=[1]) (ann:=[]) di db (by kernel_rfl) (by kernel_rfl) (Eq.mp (by kernel_rfl) h)
def Ar(b d a c e:Int)(m:Mem)(Q:Value->Mem->Prop):Prop:=
 splitB (cT a 0) (Q (.agg #[.int .i64 b,.int .i64 d,.int .i64 a,.int .i64 c,.int .i64 2]) (bump m 2)) (Q (.agg #[.int .i64 b,.int .i64 d,.int .i64 a,.int .i64 c,.int .i64 1]) (bump m 2))
theorem Dl{b d a c e:Int}{m:Mem}{Q:Value->Mem->Prop}(h:Ar b d a c e m Q):ah cx mD [.agg #[.int .i64 b,.int .i64 d,.int .i64 a,.int .i64 c,.int .i64 e]] m Q:=
 ah.of (fn:=Tryz.f113) (LS:=[1,2]) (ann:=[]) di db (by kernel_rfl) (by kernel_rfl) (Eq.mp (by kernel_rfl) h)
def Cp(b a e c d g:Int)(m:Mem)(Q:Value->Mem->Prop):Prop:=
 dJ (fun(K:Bool) (f:Mem)=>splitB K (Q (.tuple #[.agg #[.int .i64 b,.int .i64 a,.int .i64 e,.int .i64 c,.int .i64 d],.int .i64 1]) f) (splitB (dT d 0) (Q (.tuple #[.agg #[.int .i64 b,.int .i64 a,.int .i64 e,.int .i64 c,.int .i64 d],.int .i64 5]) f) (splitB (leI c g) (ah cx xk [.int .i64 g,.int .i64 a] f fun L o=>∃p z,L=(.tuple #[.int .i64 p,.bool z])/\splitB (!z) (Q (.tuple #[.agg #[.int .i64 b,.int .i64 a,.int .i64 e,.int .i64 c,.int .i64 d],.int .i64 6]) o) (ah cx mD [.agg #[.int .i64 b,.int .i64 a,.int .i64 b,.int .i64 p,.int .i64 d]] o fun N E=>∃k r y A q,N=(.agg #[.int .i64 k,.int .i64 r,.int .i64 y,.int .i64 A,.int .i64 q])/\Q (.tuple #[.agg #[.int .i64 k,.int .i64 r,.int .i64 y,.int .i64 A,.int .i64 q],.int .i64 0]) E)) (dJ (fun(H:Int) (P:Int) (U:Int) (V:Int) (R:Int) (T:Mem)=>ah cx mD [.agg #[.int .i64 H,.int .i64 P,.int .i64 U,.int .i64 V,.int .i64 R]] T fun S F=>∃w v u j l,S=(.agg #[.int .i64 w,.int .i64 v,.int .i64 u,.int .i64 j,.int .i64 l])/\Q (.tuple #[.agg #[.int .i64 w,.int .i64 v,.int .i64 u,.int .i64 j,.int .i64 l],.int .i64 0]) F) fun t=>splitB (cR (io .i64 (fG (de .i64 c g) a) b) (io .i64 e a)) (ah cx tY [.int .i64 (fG (de .i64 c g) a),.int .i64 b,.int .i64 a] f fun C G=>∃i D,C=(.tuple #[.int .i64 i,.bool D])/\t b a i c d G) (t b a e c d f))))) fun s=>ah cx lX [.agg #[.int .i64 b,.int .i64 a,.int .i64 e,.int .i64 c,.int .i64 d]] (bump m 2) fun M n=>∃B,M=(.bool B)/\splitB (!B) (s true n) (ah cx iO [.int .i64 g] n fun I O=>∃x,I=(.bool x)/\s (!x) O)
theorem Ff{b a e c d g:Int}{m:Mem}{Q:Value->Mem->Prop}(h:Cp b a e c d g m Q):ah cx xo [.agg #[.int .i64 b,.int .i64 a,.int .i64 e,.int .i64 c,.int .i64 d],.int .i64 g] m Q:=
 ah.of (fn:=Tryz.f90) (LS:=[2,4]) (ann:=[none,none,some ⟨[1],[(9,.bool)],[(2,0,0),(4,1,0)],[0,1],[],2⟩,none,none,none,none,none,none,none,none,none,none,none,none,some ⟨[],[(76,.int .i64),(77,.int .i64),(78,.int .i64),(79,.int .i64),(80,.int .i64)],[(2,0,0),(4,1,0)],[1],[(0,[76,77,78,79,80])],4⟩]) di db (by kernel_rfl) (by kernel_rfl) (Eq.mp (by kernel_rfl) h)
def Es(f i a c b j:Int)(m:Mem)(Q:Value->Mem->Prop):Prop:=
 dJ (fun(s:Bool) (d:Mem)=>splitB s (Q (.tuple #[.agg #[.int .i64 f,.int .i64 i,.int .i64 a,.int .i64 c,.int .i64 b],.int .i64 1]) d) (splitB (dT b 1) (Q (.tuple #[.agg #[.int .i64 f,.int .i64 i,.int .i64 a,.int .i64 c,.int .i64 b],.int .i64 4]) d) (ah cx mD [.agg #[.int .i64 f,.int .i64 i,.int .i64 (de .i64 a j),.int .i64 c,.int .i64 b]] d fun u r=>∃k l q n p,u=(.agg #[.int .i64 k,.int .i64 l,.int .i64 q,.int .i64 n,.int .i64 p])/\Q (.tuple #[.agg #[.int .i64 k,.int .i64 l,.int .i64 q,.int .i64 n,.int .i64 p],.int .i64 0]) r))) fun g=>ah cx lX [.agg #[.int .i64 f,.int .i64 i,.int .i64 a,.int .i64 c,.int .i64 b]] (bump m 2) fun t e=>∃o,t=(.bool o)/\splitB (!o) (g true e) (splitB (cR j 1) (g true e) (g (cR a j) e))
theorem GZ{f i a c b j:Int}{m:Mem}{Q:Value->Mem->Prop}(h:Es f i a c b j m Q):ah cx uW [.agg #[.int .i64 f,.int .i64 i,.int .i64 a,.int .i64 c,.int .i64 b],.int .i64 j] m Q:=
 ah.of (fn:=Tryz.f79) (LS:=[2,4]) (ann:=[none,none,some ⟨[1],[(6,.bool)],[(2,0,0),(4,1,0)],[0,1],[],2⟩]) di db (by kernel_rfl) (by kernel_rfl) (Eq.mp (by kernel_rfl) h)
def Cm(b f a c d:Int)(m:Mem)(Q:Value->Mem->Prop):Prop:=
 ah cx lX [.agg #[.int .i64 b,.int .i64 f,.int .i64 a,.int .i64 c,.int .i64 d]] (bump m 2) fun i e=>∃g,i=(.bool g)/\splitB (!g) (Q (.tuple #[.agg #[.int .i64 b,.int .i64 f,.int .i64 a,.int .i64 c,.int .i64 d],.int .i64 1]) e) (splitB (cT d 0) (Q (.tuple #[.agg #[.int .i64 b,.int .i64 f,.int .i64 a,.int .i64 c,.int .i64 d],.int .i64 4]) e) (Q (.tuple #[.agg #[.int .i64 b,.int .i64 f,.int .i64 a,.int .i64 c,.int .i64 0],.int .i64 0]) e))
theorem Fb{b f a c d:Int}{m:Mem}{Q:Value->Mem->Prop}(h:Cm b f a c d m Q):ah cx xl [.agg #[.int .i64 b,.int .i64 f,.int .i64 a,.int .i64 c,.int .i64 d]] m Q:=
 ah.of (fn:=Tryz.f110) (LS:=[1,2]) (ann:=[]) di db (by kernel_rfl) (by kernel_rfl) (Eq.mp (by kernel_rfl) h)
def Cn(b f a c d:Int)(m:Mem)(Q:Value->Mem->Prop):Prop:=
 ah cx lX [.agg #[.int .i64 b,.int .i64 f,.int .i64 a,.int .i64 c,.int .i64 d]] (bump m 2) fun i e=>∃g,i=(.bool g)/\splitB (!g) (Q (.tuple #[.agg #[.int .i64 b,.int .i64 f,.int .i64 a,.int .i64 c,.int .i64 d],.int .i64 1]) e) (splitB (dT d 1) (Q (.tuple #[.agg #[.int .i64 b,.int .i64 f,.int .i64 a,.int .i64 c,.int .i64 d],.int .i64 4]) e) (Q (.tuple #[.agg #[.int .i64 b,.int .i64 f,.int .i64 a,.int .i64 c,.int .i64 2],.int .i64 0]) e))
theorem Fc{b f a c d:Int}{m:Mem}{Q:Value->Mem->Prop}(h:Cn b f a c d m Q):ah cx xm [.agg #[.int .i64 b,.int .i64 f,.int .i64 a,.int .i64 c,.int .i64 d]] m Q:=
 ah.of (fn:=Tryz.f115) (LS:=[1,2]) (ann:=[]) di db (by kernel_rfl) (by kernel_rfl) (Eq.mp (by kernel_rfl) h)
def Co(b d n a c y:Int)(m:Mem)(Q:Value->Mem->Prop):Prop:=
 dJ (fun(v:Bool) (k:Mem)=>splitB v (Q (.tuple #[.agg #[.int .i64 b,.int .i64 d,.int .i64 n,.int .i64 a,.int .i64 c],.bool false]) k) (ah cx za [.int .i64 y,.int .i64 a,.int .i64 d] k fun u l=>∃p s,u=(.tuple #[.int .i64 p,.bool s])/\splitB (!s) (Q (.tuple #[.agg #[.int .i64 b,.int .i64 d,.int .i64 n,.int .i64 a,.int .i64 c],.bool false]) l) (ah cx mD [.agg #[.int .i64 b,.int .i64 d,.int .i64 b,.int .i64 p,.int .i64 c]] l fun t w=>∃q i r g j,t=(.agg #[.int .i64 q,.int .i64 i,.int .i64 r,.int .i64 g,.int .i64 j])/\Q (.tuple #[.agg #[.int .i64 q,.int .i64 i,.int .i64 r,.int .i64 g,.int .i64 j],.bool true]) w))) fun f=>ah cx lX [.agg #[.int .i64 b,.int .i64 d,.int .i64 n,.int .i64 a,.int .i64 c]] (bump m 2) fun x e=>∃o,x=(.bool o)/\splitB (!o) (f true e) (splitB (cT c 0) (f true e) (f (cR y a) e))
theorem Fe{b d n a c y:Int}{m:Mem}{Q:Value->Mem->Prop}(h:Co b d n a c y m Q):ah cx sN [.agg #[.int .i64 b,.int .i64 d,.int .i64 n,.int .i64 a,.int .i64 c],.int .i64 y] m Q:=
 ah.of (fn:=Tryz.f73) (LS:=[2,4]) (ann:=[none,none,some ⟨[1],[(21,.bool)],[(2,0,0),(4,1,0)],[0,1],[],2⟩]) di db (by kernel_rfl) (by kernel_rfl) (Eq.mp (by kernel_rfl) h)
def zc(b c:Int)(m:Mem)(Q:Value->Mem->Prop):Prop:=
 dJ (fun(e:Bool) (d:Mem)=>splitB e (Q (.tuple #[.int .i64 0,.int .i64 0,.bool false]) d) (Q (.tuple #[.int .i64 (io .i64 (de .i64 b 1) c),.int .i64 (io .i64 b c),.bool true]) d)) fun a=>splitB (cR b 1) (a true m) (splitB (cR 64 b) (a true m) (splitB (cR c 1) (a true m) (a (cR 1048576 c) m)))
theorem Cq{b c:Int}{m:Mem}{Q:Value->Mem->Prop}(h:zc b c m Q):ah cx ua [.int .i64 b,.int .i64 c] m Q:=
 ah.of (fn:=Tryz.f146) (LS:=[]) (ann:=[none,none,some ⟨[0,1],[(20,.bool)],[],[],[],0⟩]) di db (by kernel_rfl) (by kernel_rfl) (Eq.mp (by kernel_rfl) h)
def xP(f j i g:Int)(m:Mem)(Q:Value->Mem->Prop):Prop:=
 ah cx ua [.int .i64 f,.int .i64 j] m fun e b=>∃d a c,e=(.tuple #[.int .i64 d,.int .i64 a,.bool c])/\splitB c (splitB (leI a i) (Q (.bool (leI a g)) b) (Q (.bool false) b)) (Q (.bool false) b)
theorem A1{f j i g:Int}{m:Mem}{Q:Value->Mem->Prop}(h:xP f j i g m Q):ah cx sr [.int .i64 f,.int .i64 j,.int .i64 i,.int .i64 g] m Q:=
 ah.of (fn:=Tryz.f114) (LS:=[]) (ann:=[]) di db (by kernel_rfl) (by kernel_rfl) (Eq.mp (by kernel_rfl) h)
def xS(a b:Int)(m:Mem)(Q:Value->Mem->Prop):Prop:=
 splitB (cR a 0) (Q (.bool true) (bump m 1)) (splitB (cR 8 a) (Q (.bool true) (bump m 1)) (splitB (cR b 1) (Q (.bool true) (bump m 1)) (Q (.bool (cR 2147483648 b)) (bump m 1))))
theorem Ba{a b:Int}{m:Mem}{Q:Value->Mem->Prop}(h:xS a b m Q):ah cx sw [.agg #[.int .i64 a,.int .i64 b]] m Q:=
 ah.of (fn:=Tryz.f158) (LS:=[1]) (ann:=[]) di db (by kernel_rfl) (by kernel_rfl) (Eq.mp (by kernel_rfl) h)
def lz(r:Option Addr)(p s:Nat)(q:Value)(m:Mem)(Q:Value->Mem->Prop):Prop:=
 ∃c:Int->Mem->Nat->Prop,(∃o:Nat,c 0 m o)/\∀a b d,c a b d->splitB (cR a (aQ p)) ((0<=a/\a<((p:Nat):Int))/\(cZ r fun i k=>∃e,rd b i (k+Int.toNat a*2)=some (.int .i64 e)/\∃g,rd b i (k+Int.toNat a*2+1)=some (.int .i64 g)/\(jJ cx b q [.agg #[.int .i64 e,.int .i64 g]] fun n j=>∃l,n=(.bool l)/\splitB l (Q (.int .i64 a) j) (∃f:Nat,f<d/\c (bh .i64 a 1) j f)))) (Q (.int .i64 (-1:Int)) b)
theorem pO{r:Option Addr}{p s:Nat}{q:Value}{m:Mem}{Q:Value->Mem->Prop}(h:lz r p s q m Q):ah cx iE [.slice r p s,q] m Q:=
 ah.of (fn:=Tryz.f159) (LS:=[]) (ann:=[none,none,none,some ⟨[0,1,7],[(8,.int .i64)],[],[],[],0⟩]) di db (by kernel_rfl) (by kernel_rfl) (Eq.mp (by kernel_rfl) h)
def kg(g:Option Addr)(e f:Nat)(d:Value)(m:Mem)(Q:Value->Mem->Prop):Prop:=
 ah cx iE [.slice g e f,d] m fun b c=>∃a,b=(.int .i64 a)/\Q (.bool (leI 0 a)) c
theorem oA{g:Option Addr}{e f:Nat}{d:Value}{m:Mem}{Q:Value->Mem->Prop}(h:kg g e f d m Q):ah cx fV [.slice g e f,d] m Q:=
 ah.of (fn:=Tryz.f129) (LS:=[]) (ann:=[]) di db (by kernel_rfl) (by kernel_rfl) (Eq.mp (by kernel_rfl) h)
def Ay(f:Option Addr)(b e:Nat)(m:Mem)(Q:Value->Mem->Prop):Prop:=
 splitB (leI 1 (aQ b)) (splitB (leI (aQ b) 8) (ah cx fV [.slice f b e,.func (.func sw) #[] #[]] m fun c d=>∃a,c=(.bool a)/\Q (.bool (!a)) d) (Q (.bool false) m)) (Q (.bool false) m)
theorem Du{f:Option Addr}{b e:Nat}{m:Mem}{Q:Value->Mem->Prop}(h:Ay f b e m Q):ah cx oK [.slice f b e] m Q:=
 ah.of (fn:=Tryz.f128) (LS:=[]) (ann:=[]) di db (by kernel_rfl) (by kernel_rfl) (Eq.mp (by kernel_rfl) h)
def xU(g i:Int)(f:Option Addr)(m:Mem)(Q:Value->Mem->Prop):Prop:=
 cZ f fun c b=>∃d a e,rd (bump m 1) c b=some (.slice d a e)/\Q (.bool (cR (aQ a) g)) (bump m 1)
theorem Bc{g i:Int}{f:Option Addr}{m:Mem}{Q:Value->Mem->Prop}(h:xU g i f m Q):ah cx su [.agg #[.int .i64 g,.int .i64 i],.pointer f] m Q:=
 ah.of (fn:=Tryz.f127) (LS:=[2]) (ann:=[]) di db (by kernel_rfl) (by kernel_rfl) (Eq.mp (by kernel_rfl) h)
def Az(k o:Option Addr)(g i l n:Nat)(m:Mem)(Q:Value->Mem->Prop):Prop:=
 cY (newO m (row [.slice o l n] kw false)) fun j=>ah cx oK [.slice k g i] j fun f c=>∃a,f=(.bool a)/\splitB a (ah cx fV [.slice k g i,.func (.func su) #[] #[.pointer (some ⟨m.nx,0,none⟩)]] c fun d e=>∃b,d=(.bool b)/\Q (.bool (!b)) e) (Q (.bool false) c)
theorem Dv{k o:Option Addr}{g i l n:Nat}{m:Mem}{Q:Value->Mem->Prop}(h:Az k o g i l n m Q):ah cx vJ [.slice k g i,.slice o l n] m Q:=
 ah.of (fn:=Tryz.f87) (LS:=[]) (ann:=[]) di db (by kernel_rfl) (by kernel_rfl) (Eq.mp (by kernel_rfl) h)
def CC(p b f:Int)(i:Option Addr)(d o:Nat)(m:Mem)(Q:Value->Mem->Prop):Prop:=
 dJ (fun(c:Mem)=>splitB (cT b (aQ d)) (Q (.bool (cT f 0)) c) ((0<=b/\b<((d:Nat):Int))/\(cZ i fun j l=>∃e,rd (bump c 11) j (l+Int.toNat b*2+1)=some (.int .i64 e)/\Q (.bool (leI f e)) (bump c 11)))) fun n=>splitB (cR p 1) (Q (.bool false) (bump m 1)) (ah cx oK [.slice i d o] (bump m 1) fun k a=>∃g,k=(.bool g)/\splitB (!g) (Q (.bool false) a) (splitB (cR b 0) (Q (.bool false) a) (splitB (cR (aQ d) b) (Q (.bool false) a) (splitB (cR f 0) (Q (.bool false) a) (n a)))))
theorem Fo{p b f:Int}{i:Option Addr}{d o:Nat}{m:Mem}{Q:Value->Mem->Prop}(h:CC p b f i d o m Q):ah cx xD [.agg #[.int .i64 p,.slice i d o,.int .i64 b,.int .i64 f]] m Q:=
 ah.of (fn:=Tryz.f117) (LS:=[1]) (ann:=[none,some ⟨[],[],[(1,0,0)],[0],[],1⟩]) di db (by kernel_rfl) (by kernel_rfl) (Eq.mp (by kernel_rfl) h)
def EE(q:Int)(j:Option Addr)(n o:Nat)(m:Mem)(Q:Value->Mem->Prop):Prop:=
 dJ (fun(p:Bool) (a:Mem)=>splitB p (Q (.tuple #[.agg #[.int .i64 0,.slice none 0 0,.int .i64 0,.int .i64 0],.bool false]) a) (cY (newO a (row [] fY false)) fun l=>∃e b f d,cQ cx l [vL,vL] [.slice (some ⟨a.nx,0,none⟩) 0 0,.slice j n o]=some (.slice e b f,d)/\Q (.tuple #[.agg #[.int .i64 q,.slice e b f,.int .i64 0,.int .i64 0],.bool true]) d)) fun i=>ah cx oK [.slice j n o] (bump m 1) fun k g=>∃c,k=(.bool c)/\splitB (!c) (i true g) (i (cR q 1) g)
theorem G7{q:Int}{j:Option Addr}{n o:Nat}{m:Mem}{Q:Value->Mem->Prop}(h:EE q j n o m Q):ah cx zg [.int .i64 q,.slice j n o] m Q:=
 ah.of (fn:=Tryz.f89) (LS:=[4]) (ann:=[none,none,some ⟨[0,1],[(12,.bool)],[(4,0,0)],[0],[],1⟩]) di db (by kernel_rfl) (by kernel_rfl) (Eq.mp (by kernel_rfl) h)
def CE(r a q:Int)(l:Option Addr)(j p:Nat)(m:Mem)(Q:Value->Mem->Prop):Prop:=
 dJ (fun(o:Bool) (b:Mem)=>splitB o (Q (.tuple #[.agg #[.int .i64 0,.int .i64 0],.bool false]) b) ((0<=a/\a<((j:Nat):Int))/\(cZ l fun c e=>∃k,rd b c (e+Int.toNat a*2)=some (.int .i64 k)/\∃g,rd b c (e+Int.toNat a*2+1)=some (.int .i64 g)/\Q (.tuple #[.agg #[.int .i64 k,.int .i64 g],.bool true]) b))) fun i=>ah cx xD [.agg #[.int .i64 r,.slice l j p,.int .i64 a,.int .i64 q]] (bump m 2) fun n d=>∃f,n=(.bool f)/\splitB (!f) (i true d) (i (cT a (aQ j)) d)
theorem Fp{r a q:Int}{l:Option Addr}{j p:Nat}{m:Mem}{Q:Value->Mem->Prop}(h:CE r a q l j p m Q):ah cx mf [.agg #[.int .i64 r,.slice l j p,.int .i64 a,.int .i64 q]] m Q:=
 ah.of (fn:=Tryz.f78) (LS:=[1,2]) (ann:=[none,none,some ⟨[],[(14,.bool)],[(1,0,0),(2,1,0)],[0,1],[],2⟩]) di db (by kernel_rfl) (by kernel_rfl) (Eq.mp (by kernel_rfl) h)
def ED(e d a n:Int)(j:Option Addr)(f g:Nat)(m:Mem)(Q:Value->Mem->Prop):Prop:=
 ah cx mf [.agg #[.int .i64 e,.slice j f g,.int .i64 d,.int .i64 a]] (bump m 2) fun l i=>∃k b c,l=(.tuple #[.agg #[.int .i64 k,.int .i64 b],.bool c])/\splitB (!c) (Q (.tuple #[.agg #[.int .i64 e,.slice j f g,.int .i64 d,.int .i64 a],.int .i64 0]) (bump i 1)) (Q (.tuple #[.agg #[.int .i64 e,.slice j f g,.int .i64 d,.int .i64 (bh .i64 a (fG (ke n 0) (de .i64 b a)))],.int .i64 (fG (ke n 0) (de .i64 b a))]) (bump i 1))
theorem G6{e d a n:Int}{j:Option Addr}{f g:Nat}{m:Mem}{Q:Value->Mem->Prop}(h:ED e d a n j f g m Q):ah cx vd [.agg #[.int .i64 e,.slice j f g,.int .i64 d,.int .i64 a],.int .i64 n] m Q:=
 ah.of (fn:=Tryz.f80) (LS:=[2,4,6]) (ann:=[]) di db (by kernel_rfl) (by kernel_rfl) (Eq.mp (by kernel_rfl) h)
def CG(i l f:Int)(c:Option Addr)(k a:Nat)(m:Mem)(Q:Value->Mem->Prop):Prop:=
 ah cx mf [.agg #[.int .i64 i,.slice c k a,.int .i64 l,.int .i64 f]] (bump m 2) fun p b=>∃o e g,p=(.tuple #[.agg #[.int .i64 o,.int .i64 e],.bool g])/\(dJ (fun(n:Bool) (d:Mem)=>splitB n (Q (.tuple #[.agg #[.int .i64 i,.slice c k a,.int .i64 l,.int .i64 f],.bool false]) d) (Q (.tuple #[.agg #[.int .i64 i,.slice c k a,.int .i64 (bh .i64 l 1),.int .i64 0],.bool true]) d)) fun j=>splitB (!g) (j true (bump b 1)) (j (dT f e) (bump b 1)))
theorem Fq{i l f:Int}{c:Option Addr}{k a:Nat}{m:Mem}{Q:Value->Mem->Prop}(h:CG i l f c k a m Q):ah cx xC [.agg #[.int .i64 i,.slice c k a,.int .i64 l,.int .i64 f]] m Q:=
 ah.of (fn:=Tryz.f109) (LS:=[1,2,4]) (ann:=[none,none,none,some ⟨[],[(19,.bool)],[(1,0,0),(2,1,0)],[0,1],[],4⟩]) di db (by kernel_rfl) (by kernel_rfl) (Eq.mp (by kernel_rfl) h)
def ky(a:Int)(m:Mem)(Q:Value->Mem->Prop):Prop:=
 Q (.bool (dT a a)) m
theorem nF{a:Int}{m:Mem}{Q:Value->Mem->Prop}(h:ky a m Q):ah cx gB [.int .i64 a] m Q:=
 ah.of (fn:=Tryz.f143) (LS:=[]) (ann:=[]) di db (by kernel_rfl) (by kernel_rfl) (Eq.mp (by kernel_rfl) h)
def jj(d e:Int)(m:Mem)(Q:Value->Mem->Prop):Prop:=
 ah cx gB [.int .i64 d] m fun f i=>∃c,f=(.bool c)/\(ah cx gB [.int .i64 e] i fun g a=>∃b,g=(.bool b)/\splitB c (splitB b (Q (.int .i64 0) a) (Q (.int .i64 (-1:Int)) a)) (splitB b (Q (.int .i64 1) a) (splitB (cR d e) (Q (.int .i64 (-1:Int)) a) (splitB (cR e d) (Q (.int .i64 1) a) (Q (.int .i64 0) a)))))
theorem lY{d e:Int}{m:Mem}{Q:Value->Mem->Prop}(h:jj d e m Q):ah cx ij [.int .i64 d,.int .i64 e] m Q:=
 ah.of (fn:=Tryz.f106) (LS:=[]) (ann:=[]) di db (by kernel_rfl) (by kernel_rfl) (Eq.mp (by kernel_rfl) h)
end
end Go.Proofs.YthpnifigjfplbaaGreat.vc
namespace Go.Proofs.YthpnifigjfplbaaGreat.vc
open Go Go.AX
@[reducible] def A0 (s:pm.Srv):Value:=.agg #[.int .i64 s.q,.int .i64 s.p,.int .i64 s.bud,.int .i64 s.due,.int .i64 s.mode]
section
variable {m:Mem} {Q:Value->Mem->Prop}
theorem dw{r r':Value}{m m':Mem}(h:∀m',Keep m m'->Q r m')(k:Keep m m')(e:r=r'):Q r' m':=e▸h m' k
theorem pi{x:Int}(hw:Wf m)(h:∀m',Keep m m'->Q (.bool (pm.gy x)) m'):ah cx iO [.int .i64 x] m Q:=by
 apply Dj;unfold Ap;refine cJ (fun h1=>?_) (fun h1=>?_)
 .exact dw h (Keep.refl hw) (by simp[pm.gy,h1])
 .exact dw h (Keep.refl hw) (by simp[pm.gy,h1])
theorem GV{x:Int}(hw:Wf m)(h:∀m',Keep m m'->Q (.tuple #[.int .i64 (pm.rh x).1,.bool (pm.rh x).2]) m'):ah cx rn [.int .i64 x] m Q:=by
 apply Dk;unfold Aq;refine pi hw fun m1 k1=>⟨_,rfl,?_⟩
 refine dR (fun h1=>?_) (fun h1=>?_)
 .exact dw h k1 (by simp[pm.rh,h1])
 .exact dw h k1 (by simp[pm.rh,h1])
theorem Ch{x a b:Int}(hw:Wf m)(h:∀m',Keep m m'->Q (.bool (pm.sx x a b)) m'):ah cx pJ [.int .i64 x,.int .i64 a,.int .i64 b] m Q:=by
 apply GW;unfold Eo;refine cJ (fun h1=>?_) (fun h1=>?_)
 .exact dw h (Keep.refl hw) (by simp[pm.sx,h1])
 .exact dw h (Keep.refl hw) (by simp[pm.sx,h1])
theorem OU{a b:Int}(hw:Wf m)(h:∀m',Keep m m'->Q (.tuple #[.int .i64 (pm.si a b).1,.bool (pm.si a b).2]) m'):ah cx xk [.int .i64 a,.int .i64 b] m Q:=by
 apply E6;unfold Ci dJ;dsimp only;refine pi hw fun m1 k1=>⟨_,rfl,?_⟩
 refine dR (fun h1=>?_) (fun h1=>?_)
 .exact dw h k1 (by simp[pm.si,h1])
 refine pi k1.wf fun m2 k2=>⟨_,rfl,?_⟩
 refine dR (fun h2=>?_) (fun h2=>?_)
 .exact dw h (k1.trans k2) (by simp[pm.si,h1,h2])
 refine GV k2.wf fun m3 k3=>⟨_,_,rfl,?_⟩
 exact dw h ((k1.trans k2).trans k3) (by simp[pm.si,h1,h2])
theorem Ih{x b:Int}(h:pm.sx x 1 b=true):x≠0:=by
 unfold pm.sx at h;simp only[Bool.and_eq_true,fZ]at h;omega
theorem Lg{a b c:Int}(hw:Wf m)(h:∀m',Keep m m'->Q (.tuple #[.int .i64 (pm.nu a b c).1,.bool (pm.nu a b c).2]) m'):ah cx tY [.int .i64 a,.int .i64 b,.int .i64 c] m Q:=by
 apply Cj;unfold yZ dJ;dsimp only;refine Ch hw fun m1 k1=>⟨_,rfl,?_⟩
 refine dR (fun h1=>?_) (fun h1=>?_)
 .exact dw h k1 (by simp[pm.nu,h1])
 refine Ch k1.wf fun m2 k2=>⟨_,rfl,?_⟩
 refine dR (fun h2=>?_) (fun h2=>?_)
 .exact dw h (k1.trans k2) (by simp[pm.nu,h1,h2])
 refine Ch k2.wf fun m3 k3=>⟨_,rfl,?_⟩
 refine dR (fun h3=>?_) (fun h3=>?_)
 .exact dw h ((k1.trans k2).trans k3) (by simp[pm.nu,h1,h2,h3])
 .exact⟨Ih h2,dw h ((k1.trans k2).trans k3) (by simp[pm.nu,h1,h2,h3])⟩
theorem P2{a b c:Int}(hw:Wf m)(h:∀m',Keep m m'->Q (.tuple #[.int .i64 (pm.kp a b c).1,.bool (pm.kp a b c).2]) m'):ah cx za [.int .i64 a,.int .i64 b,.int .i64 c] m Q:=by
 apply GX;unfold Ep dJ;dsimp only;refine pi hw fun m1 k1=>⟨_,rfl,?_⟩
 refine dR (fun h1=>?_) (fun h1=>?_)
 .exact dw h k1 (by simp[pm.kp,h1])
 refine pi k1.wf fun m2 k2=>⟨_,rfl,?_⟩
 refine dR (fun h2=>?_) (fun h2=>?_)
 .exact dw h (k1.trans k2) (by simp[pm.kp,h1,h2])
 refine Ch k2.wf fun m3 k3=>⟨_,rfl,?_⟩
 have k:=(k1.trans k2).trans k3;refine dR (fun h3=>?_) (fun h3=>?_)
 .exact dw h k (by simp[pm.kp,h1,h2,h3])
 refine cJ (fun h4=>?_) (fun h4=>?_)
 .exact dw h k (by simp[pm.kp,h1,h2,h3,h4])
 refine⟨Ih h3,GV k3.wf fun m4 k4=>⟨_,_,rfl,?_⟩⟩;exact dw h (k.trans k4) (by simp[pm.kp,h1,h2,h3,h4])
theorem Ii{q p:Int}(hw:Wf m)(h:∀m',Keep m m'->Q (.bool (pm.pair q p)) m'):ah cx sM [.int .i64 q,.int .i64 p] m Q:=by
 apply E8;unfold Ck;refine cJ (fun h1=>cJ (fun h2=>cJ (fun h3=>?_) (fun h3=>?_)) (fun h2=>?_)) (fun h1=>?_)
 .exact dw h (Keep.refl hw) (by simp[pm.pair,h1,h2,h3])
 .exact dw h (Keep.refl hw) (by simp[pm.pair,h1,h2,h3])
 .exact dw h (Keep.refl hw) (by simp[pm.pair,h1,h2])
 .exact dw h (Keep.refl hw) (by simp[pm.pair,h1])
theorem OO{q p:Int}(hw:Wf m)(h:∀m',Keep m m'->Q (.tuple #[A0 (pm.gi q p).1,.int .i64 (pm.gi q p).2]) m'):ah cx zb [.int .i64 q,.int .i64 p] m Q:=by
 apply GY;unfold Er;refine Ii hw.bump fun m1 k1=>⟨_,rfl,?_⟩
 have k:=(Keep.refl hw).bump.trans k1;refine dR (fun h1=>?_) (fun h1=>?_)
 .exact dw h k (by simp[pm.gi,h1])
 .exact dw h k (by simp[pm.gi,h1])
theorem tZ{q p b d mo:Int}(hw:Wf m)(h:∀m',Keep m m'->Q (.bool (pm.ka ⟨q,p,b,d,mo⟩)) m'):ah cx lX [.agg #[.int .i64 q,.int .i64 p,.int .i64 b,.int .i64 d,.int .i64 mo]] m Q:=by
 apply Fa;unfold Cl;refine Ii hw.bump fun m1 k1=>⟨_,rfl,?_⟩
 have k:=(Keep.refl hw).bump.trans k1;refine cJ (fun h1=>cJ (fun h2=>cJ (fun h3=>?_) (fun h3=>?_)) (fun h2=>?_)) (fun h1=>?_)
 .refine pi k1.wf fun m2 k2=>⟨_,rfl,?_⟩
  have k:=k.trans k2;refine cJ (fun h4=>cJ (fun h5=>cJ (fun h6=>cJ (fun h7=>?_) (fun h7=>?_)) (fun h6=>?_)) (fun h5=>?_)) (fun h4=>?_)
  .exact dw h k (by simp[pm.ka,h1,h2,h3,h4,h5,h6,h7])
  .exact dw h k (by simp[pm.ka,h1,h2,h3,h4,h5,h6,h7])
  .exact dw h k (by simp[pm.ka,h1,h2,h3,h4,h5,h6])
  .exact dw h k (by simp[pm.ka,h1,h2,h3,h4,h5])
  .exact dw h k (by simp[pm.ka,h1,h2,h3,h4])
 .exact dw h k (by simp[pm.ka,h1,h2,h3])
 .exact dw h k (by simp[pm.ka,h1,h2])
 .exact dw h k (by simp[pm.ka,h1])
theorem rN{q p b d mo:Int}(hw:Wf m)(h:∀m',Keep m m'->Q (A0 (pm.ji ⟨q,p,b,d,mo⟩)) m'):ah cx mD [.agg #[.int .i64 q,.int .i64 p,.int .i64 b,.int .i64 d,.int .i64 mo]] m Q:=by
 apply Dl;unfold Ar;refine cJ (fun h1=>?_) (fun h1=>?_)
 .exact dw h (Keep.refl hw).bump (by simp[pm.ji,h1])
 .exact dw h (Keep.refl hw).bump (by simp[pm.ji,h1])
theorem Ij{q p b d mo x:Int}(hw:Wf m)(h:∀m',Keep m m'->Q (.tuple #[A0 (pm.dM ⟨q,p,b,d,mo⟩ x).1,.int .i64 (pm.dM ⟨q,p,b,d,mo⟩ x).2]) m'):ah cx uW [.agg #[.int .i64 q,.int .i64 p,.int .i64 b,.int .i64 d,.int .i64 mo],.int .i64 x] m Q:=by
 apply GZ;unfold Es dJ;dsimp only;refine tZ hw.bump fun m1 k1=>⟨_,rfl,?_⟩
 have k:=(Keep.refl hw).bump.trans k1;refine dR (fun h1=>?_) (fun h1=>?_)
 .rw[eG];exact dw h k (by simp[pm.dM,h1])
 refine cJ (fun h2=>?_) (fun h2=>?_)
 .rw[eG];exact dw h k (by simp[pm.dM,h1,h2])
 refine cJ (fun h3=>?_) (fun h3=>?_)
 .exact dw h k (by simp[pm.dM,h1,h2,h3])
 .refine fu (fun h4=>?_) (fun h4=>?_)
  .have h4:=iw.2 h4;exact dw h k (by simp[pm.dM,h1,h2,h3,h4])
  .have h4:=fF.2 h4;refine rN k1.wf fun m2 k2=>⟨_,_,_,_,_,rfl,?_⟩
   exact dw h (k.trans k2) (by simp[pm.dM,h1,h2,h3,h4])
theorem M9{q p b d mo:Int}(hw:Wf m)(h:∀m',Keep m m'->Q (.tuple #[A0 (pm.fL ⟨q,p,b,d,mo⟩).1,.int .i64 (pm.fL ⟨q,p,b,d,mo⟩).2]) m'):ah cx xl [.agg #[.int .i64 q,.int .i64 p,.int .i64 b,.int .i64 d,.int .i64 mo]] m Q:=by
 apply Fb;unfold Cm;refine tZ hw.bump fun m1 k1=>⟨_,rfl,?_⟩
 have k:=(Keep.refl hw).bump.trans k1;refine dR (fun h1=>?_) (fun h1=>cJ (fun h2=>?_) (fun h2=>?_))
 .exact dw h k (by simp[pm.fL,h1])
 .exact dw h k (by simp[pm.fL,h1,h2])
 .exact dw h k (by simp[pm.fL,h1,h2])
theorem Na{q p b d mo:Int}(hw:Wf m)(h:∀m',Keep m m'->Q (.tuple #[A0 (pm.eS ⟨q,p,b,d,mo⟩).1,.int .i64 (pm.eS ⟨q,p,b,d,mo⟩).2]) m'):ah cx xm [.agg #[.int .i64 q,.int .i64 p,.int .i64 b,.int .i64 d,.int .i64 mo]] m Q:=by
 apply Fc;unfold Cn;refine tZ hw.bump fun m1 k1=>⟨_,rfl,?_⟩
 have k:=(Keep.refl hw).bump.trans k1;refine dR (fun h1=>?_) (fun h1=>cJ (fun h2=>?_) (fun h2=>?_))
 .exact dw h k (by simp[pm.eS,h1])
 .exact dw h k (by simp[pm.eS,h1,h2])
 .exact dw h k (by simp[pm.eS,h1,h2])
theorem Nb{q p b d mo x:Int}(hw:Wf m)(h:∀m',Keep m m'->Q (.tuple #[A0 (pm.dE ⟨q,p,b,d,mo⟩ x).1,.bool (pm.dE ⟨q,p,b,d,mo⟩ x).2]) m'):ah cx sN [.agg #[.int .i64 q,.int .i64 p,.int .i64 b,.int .i64 d,.int .i64 mo],.int .i64 x] m Q:=by
 apply Fe;unfold Co dJ;dsimp only;refine tZ hw.bump fun m1 k1=>⟨_,rfl,?_⟩
 have k:=(Keep.refl hw).bump.trans k1;refine dR (fun h1=>?_) (fun h1=>?_)
 .rw[eG];exact dw h k (by simp[pm.dE,h1])
 refine cJ (fun h2=>?_) (fun h2=>?_)
 .rw[eG];exact dw h k (by simp[pm.dE,h1,h2])
 refine cJ (fun h3=>?_) (fun h3=>?_)
 .exact dw h k (by simp[pm.dE,h1,h2,h3])
 refine P2 k1.wf fun m2 k2=>⟨_,_,rfl,?_⟩
 have k:=k.trans k2;refine dR (fun h4=>?_) (fun h4=>?_)
 .exact dw h k (by simp[pm.dE,h1,h2,h3,h4])
 refine rN k2.wf fun m3 k3=>⟨_,_,_,_,_,rfl,?_⟩
 exact dw h (k.trans k3) (by simp[pm.dE,h1,h2,h3,h4])
theorem Nc{q p b d mo x:Int}(hw:Wf m)(h:∀m',Keep m m'->Q (.tuple #[A0 (pm.gz ⟨q,p,b,d,mo⟩ x).1,.int .i64 (pm.gz ⟨q,p,b,d,mo⟩ x).2]) m'):ah cx xo [.agg #[.int .i64 q,.int .i64 p,.int .i64 b,.int .i64 d,.int .i64 mo],.int .i64 x] m Q:=by
 apply Ff;unfold Cp dJ;dsimp only;refine tZ hw.bump fun m1 k1=>⟨_,rfl,?_⟩
 have k:=(Keep.refl hw).bump.trans k1;refine dR (fun h1=>?_) (fun h1=>?_)
 .rw[eG];exact dw h k (by simp[pm.gz,h1])
 refine pi k1.wf fun m2 k2=>⟨_,rfl,?_⟩
 have k:=k.trans k2;refine dR (fun h2=>?_) (fun h2=>?_)
 .exact dw h k (by simp[pm.gz,h1,h2])
 refine cJ (fun h3=>?_) (fun h3=>?_)
 .exact dw h k (by simp[pm.gz,h1,h2,h3])
 refine cJ (fun h4=>?_) (fun h4=>?_)
 .refine OU k2.wf fun m3 k3=>⟨_,_,rfl,?_⟩
  have k:=k.trans k3;refine dR (fun h5=>?_) (fun h5=>?_)
  .exact dw h k (by simp[pm.gz,h1,h2,h3,h4,h5])
  refine rN k3.wf fun m4 k4=>⟨_,_,_,_,_,rfl,?_⟩
  exact dw h (k.trans k4) (by simp[pm.gz,h1,h2,h3,h4,h5])
 .refine cJ (fun h5=>?_) (fun h5=>?_)
  .refine Lg k2.wf fun m3 k3=>⟨_,_,rfl,?_⟩
   have k:=k.trans k3;refine rN k3.wf fun m4 k4=>⟨_,_,_,_,_,rfl,?_⟩
   exact dw h (k.trans k4) (by simp[pm.gz,h1,h2,h3,h4,h5])
  .refine rN k2.wf fun m4 k4=>⟨_,_,_,_,_,rfl,?_⟩
   exact dw h (k.trans k4) (by simp[pm.gz,h1,h2,h3,h4,h5])
theorem Lh{a b:Int}(hw:Wf m)(h:∀m',Keep m m'->Q (.tuple #[.int .i64 (pm.ny a b).1,.int .i64 (pm.ny a b).2.1,.bool (pm.ny a b).2.2]) m'):ah cx ua [.int .i64 a,.int .i64 b] m Q:=by
 apply Cq;unfold zc dJ;dsimp only;have k:=Keep.refl hw;refine cJ (fun h1=>?_) (fun h1=>cJ (fun h2=>?_) (fun h2=>cJ (fun h3=>?_) (fun h3=>cJ (fun h4=>?_) (fun h4=>?_))))
 .rw[eG];exact dw h k (by simp[pm.ny,h1])
 .rw[eG];exact dw h k (by simp[pm.ny,h1,h2])
 .rw[eG];exact dw h k (by simp[pm.ny,h1,h2,h3])
 .exact dw h k (by simp[pm.ny,h1,h2,h3,h4])
 .exact dw h k (by simp[pm.ny,h1,h2,h3,h4])
theorem Jq{a b c d:Int}(hw:Wf m)(h:∀m',Keep m m'->Q (.bool (pm.pE a b c d)) m'):ah cx sr [.int .i64 a,.int .i64 b,.int .i64 c,.int .i64 d] m Q:=by
 apply A1;unfold xP;refine Lh hw fun m1 k1=>⟨_,_,_,rfl,?_⟩
 refine cJ (fun h1=>cJ (fun h2=>?_) (fun h2=>?_)) (fun h1=>?_)
 .exact dw h k1 (by simp[pm.pE,h1,h2])
 .exact dw h k1 (by simp[pm.pE,h1,h2])
 .exact dw h k1 (by simp[pm.pE,h1])
theorem rO{x:Int}(h:Q (.bool false) m):ah cx gB [.int .i64 x] m Q:=by
 apply nF;unfold ky;rw[AG];exact h
theorem vD{x y:Int}(h:Q (.int .i64 (pl.c2 x y)) m):ah cx ij [.int .i64 x,.int .i64 y] m Q:=by
 apply lY;unfold jj;refine rO ⟨_,rfl,rO ⟨_,rfl,?_⟩⟩;unfold pl.c2 at h;rw[gk,gk];simp only[fe,gH,dW];exact⟨fun e=>by rw[if_pos e]at h;exact h,fun e=>⟨fun e2=>by rw[if_neg (by omega),if_pos e2]at h;exact h,fun e2=>by rw[if_neg (by omega),if_neg (by omega)]at h;exact h⟩⟩
end
end Go.Proofs.YthpnifigjfplbaaGreat.vc
namespace Go.Proofs.YthpnifigjfplbaaGreat.vc
open Go Go.AX
@[reducible] def Nx (j:pm.Job) (a:Option Addr) (n c:Nat):Value:=.agg #[.int .i64 j.num,.slice a n c,.int .i64 j.at_,.int .i64 j.done]
theorem Dt{α : Type}{f:α->Bool}{l:List α}:leI 0 (match l.findIdx? f with|some i=>(i:Int)|none=>-1)=l.any f:=by
 cases h:l.findIdx? f with
 | none=>
  rw[List.findIdx?_eq_none_iff]at h;have:l.any f=false:=List.any_eq_false.2 fun x hx=>by rw[h x hx];simp
  rw[this];simp[leI]
 | some i=>
  obtain⟨hi,h1,_⟩:=List.findIdx?_eq_some_iff_getElem.1 h;have:l.any f=true:=List.any_eq_true.2 ⟨_,List.getElem_mem hi,h1⟩;rw[this];simp[leI]
section
variable {m:Mem} {Q:Value->Mem->Prop}
theorem O7{v:Value}{f:pm.Step->Bool}{a:Option Addr}{n c:Nat}{l:List pm.Step}(hw:Wf m)(ha:Arr encP 2 m a n l)(hn:n<=4611686018427387904)
  (hf:∀x m1 (R:Value->Mem->Prop),Keep m m1->(∀m2,Keep m1 m2->R (.bool (f x)) m2)->jJ cx m1 v [.agg #[.int .i64 x.1,.int .i64 x.2]] R)
  (h:∀m',Keep m m'->Q (.int .i64 (match l.findIdx? f with|some i=>(i:Int)|none=>-1)) m'):ah cx iE [.slice a n c,v] m Q:=by
 apply pO;unfold lz;refine og hn (fun k m1=>Keep m m1/\∀j x,j<k->l[j]? = some x->f x=false) ⟨Keep.refl hw,fun j x hj=>by omega⟩ ?_;rintro k m1 hk ⟨k1,hb⟩ I w hI;refine dG (fun hlt=>?_) (fun hge=>?_)
 .obtain⟨x,hx⟩:=ha.get hlt;refine ha.open hx fun b o hc=>?_
  have hc1:=hc.keep hw k1;refine⟨x.1,hc1 0 _ rfl,x.2,hc1 1 _ rfl,hf x m1 _ k1 fun m2 k2=>⟨_,rfl,cJ (fun h1=>?_) (fun h1=>?_)⟩⟩
  .refine dw h (k1.trans k2) ?_;obtain⟨hlk1,hlk2⟩:=(gQ1 hx);have:l.findIdx? f=some k:=List.findIdx?_eq_some_iff_getElem.2 ⟨hlk1,by rw[hlk2];exact h1,fun j hj=>by rw[hb j _ hj (gQ2 (by omega))];simp⟩;rw[this]
  .exact hI m2 hlt ⟨k1.trans k2,fun j y hj hy=>by
    by_cases e:j=k
    ·subst e;rw[hx]at hy;cases hy;exact h1
    ·exact hb j y (by omega) hy⟩
 .refine dw h k1 ?_;have:l.findIdx? f=none:=List.findIdx?_eq_none_iff.2 fun x hx=>by
   obtain⟨i,hi⟩:=List.getElem?_of_mem hx;have:=(gQ1 hi).1;exact hb i x (by have:=ha.1;omega) hi
  rw[this]
theorem Ir{v:Value}{f:pm.Step->Bool}{a:Option Addr}{n c:Nat}{l:List pm.Step}(hw:Wf m)(ha:Arr encP 2 m a n l)(hn:n<=4611686018427387904)
  (hf:∀x m1 (R:Value->Mem->Prop),Keep m m1->(∀m2,Keep m1 m2->R (.bool (f x)) m2)->jJ cx m1 v [.agg #[.int .i64 x.1,.int .i64 x.2]] R)
  (h:∀m',Keep m m'->Q (.bool (l.any f)) m'):ah cx fV [.slice a n c,v] m Q:=by
 apply oA;unfold kg;refine O7 hw ha hn hf fun m1 k1=>⟨_,rfl,?_⟩
 rw[Dt];exact h m1 k1
theorem O8{x y:Int}(hw:Wf m)(h:∀m',Keep m m'->Q (.bool (pm.wV (x,y))) m'):ah cx sw [.agg #[.int .i64 x,.int .i64 y]] m Q:=by
 apply Ba;unfold xS;have k:Keep m (bump m 1):=(Keep.refl hw).bump;refine cJ (fun h1=>?_) (fun h1=>cJ (fun h2=>?_) (fun h2=>cJ (fun h3=>?_) (fun h3=>?_)))
 .exact dw h k (by simp[pm.wV,h1])
 .exact dw h k (by simp[pm.wV,h1,h2])
 .exact dw h k (by simp[pm.wV,h1,h2,h3])
 .exact dw h k (by simp[pm.wV,h1,h2,h3])
theorem Bb{a:Option Addr}{n c:Nat}{p:List pm.Step}(hw:Wf m)(ha:Arr encP 2 m a n p)(h:∀m',Keep m m'->Q (.bool (pm.pGood p)) m'):ah cx oK [.slice a n c] m Q:=by
 apply Du;unfold Ay;have hl:=ha.1;subst hl;refine cJ (fun h1=>cJ (fun h2=>?_) (fun h2=>?_)) (fun h1=>?_)
 .refine Ir (f:=pm.wV) hw ha (by have:=fZ.1 h2;simp[aQ]at this;omega) (fun x m1 R k1 hR=>O8 k1.wf hR) fun m1 k1=>⟨_,rfl,?_⟩
  exact dw h k1 (by simp[pm.pGood,h1,h2])
 .exact dw h (Keep.refl hw) (by simp[pm.pGood,h1,h2])
 .exact dw h (Keep.refl hw) (by simp[pm.pGood,h1])
theorem EC{p:List pm.Step}(h:pm.pGood p=true):1<=p.length/\p.length<=8:=by
 unfold pm.pGood at h;simp only[Bool.and_eq_true,fZ,aQ]at h;omega
theorem Ny{a a2:Option Addr}{n c n2 c2:Nat}{p:List pm.Step}(hw:Wf m)(ha:Arr encP 2 m a n p)(h:∀m',Keep m m'->Q (.bool (pm.qf p n2)) m'):ah cx vJ [.slice a n c,.slice a2 n2 c2] m Q:=by
 apply Dv;unfold Az;rw[cO];have k0:Keep m (newO m (row [.slice a2 n2 c2] kw false)):=(Keep.refl hw).newO;have hR:Row (newO m (row [.slice a2 n2 c2] kw false)) m.nx [.slice a2 n2 c2] kw false:=Row.newO;generalize newO m (row [.slice a2 n2 c2] kw false)=m0 at k0 hR;have ha0:=ha.keep hw k0;refine Bb k0.wf ha0 fun m1 k1=>⟨_,rfl,cJ (fun h1=>?_) (fun h1=>?_)⟩
 .have hR1:=k1.row k0.wf hR;refine Ir (f:=fun s=>cR (aQ n2) s.1) k1.wf (ha0.keep k0.wf k1) (by have:=EC h1;have:=ha.1;omega) (fun x m2 R k2 hRR=>?_) fun m2 k2=>⟨_,rfl,?_⟩
  .show ah cx su [.agg #[.int .i64 x.1,.int .i64 x.2],.pointer (some ⟨m.nx,0,none⟩)] m2 R;apply Bc;unfold xU;rw[cW];refine⟨a2,n2,c2,by rw[CX,(k2.row k1.wf hR1).rd];rfl,hRR _ (Keep.refl k2.wf).bump⟩
  .exact dw h ((k0.trans k1).trans k2) (by simp[pm.qf,h1])
 .exact dw h (k0.trans k1) (by simp[pm.qf,h1])
theorem Is{j:pm.Job}{k:Nat}(h:j.at_=(k:Int))(hk:k<j.prog.length):j.prog[k]? = some j.cur:=by
 unfold pm.Job.cur;rw[h,Int.toNat_natCast,List.getD_eq_getElem?_getD,gQ2 hk];rfl
theorem Nz{num at_ done:Int}{a:Option Addr}{n c:Nat}{p:List pm.Step}(hw:Wf m)(ha:Arr encP 2 m a n p)(h:∀m',Keep m m'->Q (.bool (pm.oP ⟨num,p,at_,done⟩)) m') :
  ah cx xD [.agg #[.int .i64 num,.slice a n c,.int .i64 at_,.int .i64 done]] m Q:=by
 apply Fo;unfold CC dJ;dsimp only;have k0:Keep m (bump m 1):=(Keep.refl hw).bump;have hl:=ha.1;refine cJ (fun h1=>?_) (fun h1=>?_)
 .exact dw h k0 (by simp[pm.oP,h1])
 refine Bb k0.wf (ha.keep hw k0) fun m1 k1=>⟨_,rfl,?_⟩
 have k:=k0.trans k1;refine dR (fun h2=>?_) (fun h2=>?_)
 .exact dw h k (by simp[pm.oP,h1,h2])
 refine cJ (fun h3=>?_) (fun h3=>?_)
 .exact dw h k (by simp[pm.oP,h1,h2,h3])
 subst hl;refine cJ (fun h4=>?_) (fun h4=>?_)
 .exact dw h k (by simp[pm.oP,h1,h2,h3,h4])
 refine cJ (fun h5=>?_) (fun h5=>?_)
 .exact dw h k (by simp[pm.oP,h1,h2,h3,h4,h5])
 refine cJ (fun h6=>?_) (fun h6=>?_)
 .exact dw h k (by simp[pm.oP,h1,h2,h3,h4,h5,h6])
 .have g3:=dW.1 h3;have g4:=dW.1 h4;have g6:=dY.1 h6;simp only[aQ]at g4 g6;obtain⟨i,rfl⟩:∃i:Nat,at_=(i:Int):=⟨at_.toNat,by omega⟩
  have hlt:i<p.length:=by omega
  have hx:=Is (j:=⟨num,p,(i:Int),done⟩) rfl hlt;refine ha.open hx fun b o hc=>?_
  refine⟨_,zp (k.bump (n:=11)) hw (hc 1 _ rfl),?_⟩;exact dw h k.bump (by simp[pm.oP,h1,h2,h3,h4,h5,h6])
theorem ud{num at_ done:Int}{a:Option Addr}{n c:Nat}{p:List pm.Step}(hw:Wf m)(ha:Arr encP 2 m a n p)(h:∀m',Keep m m'->Q (.tuple #[.agg #[.int .i64 (pm.dI ⟨num,p,at_,done⟩).1.1,.int .i64 (pm.dI ⟨num,p,at_,done⟩).1.2],.bool (pm.dI ⟨num,p,at_,done⟩).2]) m') :
  ah cx mf [.agg #[.int .i64 num,.slice a n c,.int .i64 at_,.int .i64 done]] m Q:=by
 apply Fp;unfold CE dJ;dsimp only;have k0:Keep m (bump m 2):=(Keep.refl hw).bump;have hl:=ha.1;refine Nz k0.wf (ha.keep hw k0) fun m1 k1=>⟨_,rfl,?_⟩
 have k:=k0.trans k1;subst hl;refine dR (fun h1=>?_) (fun h1=>?_)
 .rw[eG];exact dw h k (by simp[pm.dI,h1])
 refine cJ (fun h2=>?_) (fun h2=>?_)
 .exact dw h k (by simp[pm.dI,h1,h2])
 .have g:=h1;unfold pm.oP at g;simp only[Bool.and_eq_true,Bool.not_eq_true']at g;obtain⟨_,_,g3,g4,_⟩:=g;have g3:=dW.1 g3;have g4:=dW.1 g4;have g6:=dY.1 h2;simp only[aQ]at g4 g6;obtain⟨i,rfl⟩:∃i:Nat,at_=(i:Int):=⟨at_.toNat,by omega⟩
  have hlt:i<p.length:=by omega
  have hx:=Is (j:=⟨num,p,(i:Int),done⟩) rfl hlt;refine ha.open hx fun b o hc=>?_
  refine⟨_,zp k hw (hc 0 _ rfl),_,zp k hw (hc 1 _ rfl),?_⟩;exact dw h k (by simp[pm.dI,h1,h2])
theorem It{num at_ done x:Int}{a:Option Addr}{n c:Nat}{p:List pm.Step}(hw:Wf m)(ha:Arr encP 2 m a n p)
  (h:∀m',Keep m m'->Q (.tuple #[Nx (pm.eY ⟨num,p,at_,done⟩ x).1 a n c,.int .i64 (pm.eY ⟨num,p,at_,done⟩ x).2]) m') :
  ah cx vd [.agg #[.int .i64 num,.slice a n c,.int .i64 at_,.int .i64 done],.int .i64 x] m Q:=by
 apply G6;unfold ED;have k0:Keep m (bump m 2):=(Keep.refl hw).bump;refine ud k0.wf (ha.keep hw k0) fun m1 k1=>⟨_,_,_,rfl,?_⟩
 have k:=(k0.trans k1).bump (n:=1);refine dR (fun h1=>?_) (fun h1=>?_)
 .exact dw h k (by simp[pm.eY,h1])
 .exact dw h k (by simp[pm.eY,h1])
theorem Nq{num at_ done:Int}{a:Option Addr}{n c:Nat}{p:List pm.Step}(hw:Wf m)(ha:Arr encP 2 m a n p)
  (h:∀m',Keep m m'->Q (.tuple #[Nx (pm.eL ⟨num,p,at_,done⟩).1 a n c,.bool (pm.eL ⟨num,p,at_,done⟩).2]) m') :
  ah cx xC [.agg #[.int .i64 num,.slice a n c,.int .i64 at_,.int .i64 done]] m Q:=by
 apply Fq;unfold CG dJ;dsimp only;have k0:Keep m (bump m 2):=(Keep.refl hw).bump;refine ud k0.wf (ha.keep hw k0) fun m1 k1=>⟨_,_,_,rfl,?_⟩
 have k:=(k0.trans k1).bump (n:=1);refine dR (fun h1=>?_) (fun h1=>?_)
 .rw[eG];exact dw h k (by simp[pm.eL,h1])
 refine cJ (fun h2=>?_) (fun h2=>?_)
 .exact dw h k (by simp[pm.eL,h1,h2])
 .exact dw h k (by simp[pm.eL,h1,h2])
theorem O9{num:Int}{a:Option Addr}{n c:Nat}{p:List pm.Step}(hw:Wf m)(ha:Arr encP 2 m a n p)(hg:pm.pGood p=true)
  (h:∀m' a' c',Keep m m'->Arr encP 2 m' a' n (pm.qg num p).1.prog∨(pm.qg num p).2=false->(∀b∈blk a',m.nx<=b)->Q (.tuple #[Nx (pm.qg num p).1 (bif (pm.qg num p).2 then a' else none) (bif (pm.qg num p).2 then n else 0) (bif (pm.qg num p).2 then c' else 0),.bool (pm.qg num p).2]) m') :
  ah cx zg [.int .i64 num,.slice a n c] m Q:=by
 apply G7;unfold EE dJ;dsimp only;have k0:Keep m (bump m 1):=(Keep.refl hw).bump;refine Bb k0.wf (ha.keep hw k0) fun m1 k1=>⟨_,rfl,?_⟩
 have k:=k0.trans k1;have hl:=ha.1;refine dR (fun h1=>?_) (fun h1=>?_)
 .rw[hg]at h1;cases h1
 refine cJ (fun h2=>?_) (fun h2=>?_)
 .have:=h m1 none 0 k (.inr (by simp[pm.qg,h1,h2])) (fun b hb=>by cases hb);simpa [pm.qg,h1,h2]using this
 .rw[cO];have k2:Keep m (newO m1 (row [] fY false)):=k.newO;have hb:(newO m1 (row [] fY false)).hp.get m1.nx=some (row [] fY false):=by rw[kM,if_pos rfl]
  generalize newO m1 (row [] fY false)=m2 at k2 hb;have ha2:=ha.keep hw k2;have hlen:=EC hg;have hap:=sE (cx:=cx) (t:=vL) (e:=fY) (s:=2) (m:=m2) (n:=0) (k:=n) (c:=0) (ck:=c) (a:=some ⟨m1.nx,0,none⟩) (v:=a) (old:=[]) (new:=p.flatMap encP) (by kernel_rfl)
   (by unfold giveUp;simp only[hb,row]) rfl (by simp) (ha2.first tL (by omega)) (by rw[dm tL,hl]) (by
    rw[List.all_eq_true];intro v hv;obtain⟨x,_,hx⟩:=List.mem_flatMap.1 hv;simp[encP]at hx;rcases hx with rfl|rfl<;>rfl) (by omega) (by omega)
  rw[List.nil_append,Nat.zero_add]at hap;refine⟨_,_,_,_,hap,?_⟩;have k3:Keep m (newO m2 (row (p.flatMap encP) fY true)):=k2.newO;have hR:Row (newO m2 (row (p.flatMap encP) fY true)) m2.nx (p.flatMap encP) fY true:=Row.newO;have hA:=Arr.of_row tL hR;rw[hl]at hA;have e1:pm.qg num p=(⟨num,p,0,0⟩,true):=by simp[pm.qg,h1,h2]
  have:=h _ (some ⟨m2.nx,0,none⟩) n k3 (.inl (by rw[e1];exact hA)) (fun b hb=>by simp[blk]at hb;subst hb;exact k2.nx);rw[e1]at this;exact this
end
end Go.Proofs.YthpnifigjfplbaaGreat.vc
