import Derived.Test.YthpnifigjfplbaaGreatQP31
import Derived.Test.YthpnifigjfplbaaGreatQP01
import Derived.Test.YthpnifigjfplbaaGreatQP19
import Derived.Test.YthpnifigjfplbaaGreatQP21
import Derived.Test.YthpnifigjfplbaaGreatQP29
import Derived.KernelRfl
import Derived.Test.YthpnifigjfplbaaGreatQP24
import Derived.Test.YthpnifigjfplbaaGreatQP22
set_option linter.unusedVariables false
set_option linter.unusedSimpArgs false
namespace Go.Proofs.YthpnifigjfplbaaGreat.vc
open Go Go.AX
noncomputable section
def fm(x:pl.E):List Value:=[.int .i64 x.1,.int .i64 x.2.1,.bool x.2.2]
def CY:List Value->Option (List pl.E)
 | []=>some []
 | .int .i64 a::.int .i64 b::.bool c::r=>match CY r with
  | some l=>some ((a,b,c)::l)
  | none=>none
 | _=>none
theorem D5:∀l:List pl.E,CY (l.flatMap fm)=some l
 | []=>rfl
 | (a,b,c)::l=>by
  show (match CY (l.flatMap fm)with|some l=>some ((a,b,c)::l)|none=>none)=_;rw[D5 l]
theorem Ov{l:List Value}{xs:List pl.E}(h:CY l=some xs):l=xs.flatMap fm:=by
 fun_induction CY l generalizing xs with
 | case1=>cases h;rfl
 | case2 a b c r l hl ih=>
  cases h;rw[ih hl];rfl
 | case3=>cases h
 | case4=>cases h
def AF:List Value->Mem->Option (Value×Mem):=pQ 3 (BC fm CY pl.srt) [.func (.func fq) #[] #[]]
def wP:List Value->Mem->Option (Value×Mem):=pQ 1 BB []
def B8:List Value->Mem->Option (Value×Mem):=pL vc0.cx cO dr 11 104
def vI:List (Nat×(List Value->Mem->Option (Value×Mem))):=[(kF,se),(fL,wP),(eN,AF),(eZ,B8)]
def ov:Tr (List Value->Mem->Option (Value×Mem)):=vI.foldr (fun x t=>t.put x.1 x.2) .nil
def cx:Cx:=Cx.of Tryz.prog ov
theorem I1:CxOk Tryz.prog cx:=CxOk.of _ _
theorem MP:cx.ov.get kF=some se:=by
 show (vI.foldr (fun x t=>Tr.put t x.1 x.2) .nil).get _=_;simp only[vI,List.foldr_cons,List.foldr_nil,Tr.get_put];rfl
theorem HV:cx.ov.get fL=some wP:=by
 show (vI.foldr (fun x t=>Tr.put t x.1 x.2) .nil).get _=_;simp only[vI,List.foldr_cons,List.foldr_nil,Tr.get_put];rfl
theorem KT:cx.ov.get eN=some AF:=by
 show (vI.foldr (fun x t=>Tr.put t x.1 x.2) .nil).get _=_;simp only[vI,List.foldr_cons,List.foldr_nil,Tr.get_put];rfl
theorem HQ:cx.ov.get eZ=some B8:=by
 show (vI.foldr (fun x t=>Tr.put t x.1 x.2) .nil).get _=_;simp only[vI,List.foldr_cons,List.foldr_nil,Tr.get_put];rfl
theorem HU:cx.ov=vI.foldr (fun x t=>Tr.put t x.1 x.2) .nil:=rfl
theorem Ox:FG AF:=Hy
theorem Oy:FH AF:=Hz
theorem MQ:FG wP:=Hy
theorem MR:FH wP:=Hz
theorem MS:FG B8:=NT
theorem MU:FH B8:=NU
theorem dm:nO cx:=JY HU fun x hx=>by
 simp only[vI,List.mem_cons,List.not_mem_nil,or_false]at hx;rcases hx with h|h|h|h<;>rw[h]
 .exact LZ
 .exact MQ
 .exact Ox
 .exact MS
theorem dh:mr cx:=JZ HU fun x hx=>by
 simp only[vI,List.mem_cons,List.not_mem_nil,or_false]at hx;rcases hx with h|h|h|h<;>rw[h]
 .exact L0
 .exact MR
 .exact Oy
 .exact MU
end
end Go.Proofs.YthpnifigjfplbaaGreat.vc
namespace Go.Proofs.YthpnifigjfplbaaGreat.vc
open Go Go.AX
set_option maxRecDepth 100000
noncomputable section
def zS(a:Int)(m:Mem)(Q:Value->Mem->Prop):Prop:=
 splitB (leI 0 a) (Q (.bool (leI a 4611686018427387904)) m) (Q (.bool false) m)
theorem CV{a:Int}{m:Mem}{Q:Value->Mem->Prop}(h:zS a m Q):ah cx iF [.int .i64 a] m Q:=
 ah.of (fn:=Tryz.f130) (LS:=[]) (ann:=[]) dm dh (by kernel_rfl) (by kernel_rfl) (Eq.mp (by kernel_rfl) h)
def zT(d:Int)(m:Mem)(Q:Value->Mem->Prop):Prop:=
 ah cx iF [.int .i64 d] m fun c b=>∃a,c=(.bool a)/\splitB (!a) (Q (.tuple #[.int .i64 0,.bool false]) b) (Q (.tuple #[.int .i64 d,.bool true]) b)
theorem CW{d:Int}{m:Mem}{Q:Value->Mem->Prop}(h:zT d m Q):ah cx qR [.int .i64 d] m Q:=
 ah.of (fn:=Tryz.f145) (LS:=[]) (ann:=[]) dm dh (by kernel_rfl) (by kernel_rfl) (Eq.mp (by kernel_rfl) h)
def DW(a b c:Int)(m:Mem)(Q:Value->Mem->Prop):Prop:=
 splitB (leI b a) (Q (.bool (leI a c)) m) (Q (.bool false) m)
theorem Gw{a b c:Int}{m:Mem}{Q:Value->Mem->Prop}(h:DW a b c m Q):ah cx pq [.int .i64 a,.int .i64 b,.int .i64 c] m Q:=
 ah.of (fn:=Tryz.f144) (LS:=[]) (ann:=[]) dm dh (by kernel_rfl) (by kernel_rfl) (Eq.mp (by kernel_rfl) h)
def BY(g i:Int)(m:Mem)(Q:Value->Mem->Prop):Prop:=
 dN (fun(k:Mem)=>ah cx qR [.int .i64 (bh .i64 g i)] k fun o j=>∃d c,o=(.tuple #[.int .i64 d,.bool c])/\Q (.tuple #[.int .i64 d,.bool c]) j) fun n=>ah cx iF [.int .i64 g] m fun l a=>∃b,l=(.bool b)/\splitB (!b) (Q (.tuple #[.int .i64 0,.bool false]) a) (ah cx iF [.int .i64 i] a fun p e=>∃f,p=(.bool f)/\splitB (!f) (Q (.tuple #[.int .i64 0,.bool false]) e) (n e))
theorem EC{g i:Int}{m:Mem}{Q:Value->Mem->Prop}(h:BY g i m Q):ah cx wK [.int .i64 g,.int .i64 i] m Q:=
 ah.of (fn:=Tryz.f131) (LS:=[]) (ann:=[none,some ⟨[0,1],[],[],[],[],0⟩]) dm dh (by kernel_rfl) (by kernel_rfl) (Eq.mp (by kernel_rfl) h)
def yA(i j a:Int)(m:Mem)(Q:Value->Mem->Prop):Prop:=
 dN (fun(l:Mem)=>a≠0/\Q (.tuple #[.int .i64 (nP .i64 (ig .i64 i j) a),.bool true]) l) fun p=>ah cx pq [.int .i64 i,.int .i64 0,.int .i64 2147483648] m fun o e=>∃c,o=(.bool c)/\splitB (!c) (Q (.tuple #[.int .i64 0,.bool false]) e) (ah cx pq [.int .i64 a,.int .i64 1,.int .i64 2147483648] e fun n b=>∃d,n=(.bool d)/\splitB (!d) (Q (.tuple #[.int .i64 0,.bool false]) b) (ah cx pq [.int .i64 j,.int .i64 0,.int .i64 a] b fun k g=>∃f,k=(.bool f)/\splitB (!f) (Q (.tuple #[.int .i64 0,.bool false]) g) (p g)))
theorem BZ{i j a:Int}{m:Mem}{Q:Value->Mem->Prop}(h:yA i j a m Q):ah cx tH [.int .i64 i,.int .i64 j,.int .i64 a] m Q:=
 ah.of (fn:=Tryz.f132) (LS:=[]) (ann:=[none,some ⟨[0,1,2],[],[],[],[],0⟩]) dm dh (by kernel_rfl) (by kernel_rfl) (Eq.mp (by kernel_rfl) h)
def DX(e a b:Int)(m:Mem)(Q:Value->Mem->Prop):Prop:=
 dN (fun(g:Mem)=>splitB (cR e a) (Q (.tuple #[.int .i64 a,.bool true]) g) (b≠0/\(ah cx qR [.int .i64 (bh .i64 a (ig .i64 (bh .i64 (nP .i64 (cY .i64 e a) b) 1) b))] g fun o p=>∃j i,o=(.tuple #[.int .i64 j,.bool i])/\Q (.tuple #[.int .i64 j,.bool i]) p))) fun s=>ah cx iF [.int .i64 e] m fun r c=>∃d,r=(.bool d)/\splitB (!d) (Q (.tuple #[.int .i64 0,.bool false]) c) (ah cx iF [.int .i64 a] c fun q n=>∃f,q=(.bool f)/\splitB (!f) (Q (.tuple #[.int .i64 0,.bool false]) n) (ah cx pq [.int .i64 b,.int .i64 1,.int .i64 2147483648] n fun t k=>∃l,t=(.bool l)/\splitB (!l) (Q (.tuple #[.int .i64 0,.bool false]) k) (s k)))
theorem Gx{e a b:Int}{m:Mem}{Q:Value->Mem->Prop}(h:DX e a b m Q):ah cx yB [.int .i64 e,.int .i64 a,.int .i64 b] m Q:=
 ah.of (fn:=Tryz.f112) (LS:=[]) (ann:=[none,some ⟨[0,1,2],[],[],[],[],0⟩]) dm dh (by kernel_rfl) (by kernel_rfl) (Eq.mp (by kernel_rfl) h)
def B0(b a:Int)(m:Mem)(Q:Value->Mem->Prop):Prop:=
 splitB (leI 1 a) (splitB (leI a 2147483648) (splitB (leI 1 b) (Q (.bool (leI b a)) m) (Q (.bool false) m)) (Q (.bool false) m)) (Q (.bool false) m)
theorem ED{b a:Int}{m:Mem}{Q:Value->Mem->Prop}(h:B0 b a m Q):ah cx sA [.int .i64 b,.int .i64 a] m Q:=
 ah.of (fn:=Tryz.f124) (LS:=[]) (ann:=[]) dm dh (by kernel_rfl) (by kernel_rfl) (Eq.mp (by kernel_rfl) h)
def DY(d e:Int)(m:Mem)(Q:Value->Mem->Prop):Prop:=
 ah cx sA [.int .i64 d,.int .i64 e] (bump m 1) fun c b=>∃a,c=(.bool a)/\splitB (!a) (Q (.tuple #[.agg #[.int .i64 0,.int .i64 0,.int .i64 0,.int .i64 0,.int .i64 0],.int .i64 1]) b) (Q (.tuple #[.agg #[.int .i64 d,.int .i64 e,.int .i64 0,.int .i64 0,.int .i64 0],.int .i64 0]) b)
theorem Gy{d e:Int}{m:Mem}{Q:Value->Mem->Prop}(h:DY d e m Q):ah cx yC [.int .i64 d,.int .i64 e] m Q:=
 ah.of (fn:=Tryz.f85) (LS:=[4]) (ann:=[]) dm dh (by kernel_rfl) (by kernel_rfl) (Eq.mp (by kernel_rfl) h)
def B1(i l d k f:Int)(m:Mem)(Q:Value->Mem->Prop):Prop:=
 ah cx sA [.int .i64 i,.int .i64 l] (bump m 1) fun j b=>∃c,j=(.bool c)/\splitB c (splitB (leI 0 d) (splitB (leI d i) (ah cx iF [.int .i64 k] b fun g a=>∃e,g=(.bool e)/\splitB e (splitB (leI 0 f) (splitB (leI f 2) (splitB (dV f 1) (Q (.bool true) a) (Q (.bool (cR 0 d)) a)) (Q (.bool false) a)) (Q (.bool false) a)) (Q (.bool false) a)) (Q (.bool false) b)) (Q (.bool false) b)) (Q (.bool false) b)
theorem EE{i l d k f:Int}{m:Mem}{Q:Value->Mem->Prop}(h:B1 i l d k f m Q):ah cx lP [.agg #[.int .i64 i,.int .i64 l,.int .i64 d,.int .i64 k,.int .i64 f]] m Q:=
 ah.of (fn:=Tryz.f111) (LS:=[1]) (ann:=[]) dm dh (by kernel_rfl) (by kernel_rfl) (Eq.mp (by kernel_rfl) h)
def zU(d c a b e:Int)(m:Mem)(Q:Value->Mem->Prop):Prop:=
 splitB (cU a 0) (Q (.agg #[.int .i64 d,.int .i64 c,.int .i64 a,.int .i64 b,.int .i64 2]) (bump m 2)) (Q (.agg #[.int .i64 d,.int .i64 c,.int .i64 a,.int .i64 b,.int .i64 1]) (bump m 2))
theorem CX{d c a b e:Int}{m:Mem}{Q:Value->Mem->Prop}(h:zU d c a b e m Q):ah cx ml [.agg #[.int .i64 d,.int .i64 c,.int .i64 a,.int .i64 b,.int .i64 e]] m Q:=
 ah.of (fn:=Tryz.f113) (LS:=[1,2]) (ann:=[]) dm dh (by kernel_rfl) (by kernel_rfl) (Eq.mp (by kernel_rfl) h)
def B5(b a e c d g:Int)(m:Mem)(Q:Value->Mem->Prop):Prop:=
 dN (fun(C:Bool) (f:Mem)=>splitB C (Q (.tuple #[.agg #[.int .i64 b,.int .i64 a,.int .i64 e,.int .i64 c,.int .i64 d],.int .i64 1]) f) (splitB (dV d 0) (Q (.tuple #[.agg #[.int .i64 b,.int .i64 a,.int .i64 e,.int .i64 c,.int .i64 d],.int .i64 5]) f) (splitB (leI c g) (ah cx wK [.int .i64 g,.int .i64 a] f fun I z=>∃o n,I=(.tuple #[.int .i64 o,.bool n])/\splitB (!n) (Q (.tuple #[.agg #[.int .i64 b,.int .i64 a,.int .i64 e,.int .i64 c,.int .i64 d],.int .i64 6]) z) (ah cx ml [.agg #[.int .i64 b,.int .i64 a,.int .i64 b,.int .i64 o,.int .i64 d]] z fun O P=>∃w x j y A,O=(.agg #[.int .i64 w,.int .i64 x,.int .i64 j,.int .i64 y,.int .i64 A])/\Q (.tuple #[.agg #[.int .i64 w,.int .i64 x,.int .i64 j,.int .i64 y,.int .i64 A],.int .i64 0]) P)) (dN (fun(F:Int) (R:Int) (D:Int) (K:Int) (S:Int) (N:Mem)=>ah cx ml [.agg #[.int .i64 F,.int .i64 R,.int .i64 D,.int .i64 K,.int .i64 S]] N fun E M=>∃q u v i B,E=(.agg #[.int .i64 q,.int .i64 u,.int .i64 v,.int .i64 i,.int .i64 B])/\Q (.tuple #[.agg #[.int .i64 q,.int .i64 u,.int .i64 v,.int .i64 i,.int .i64 B],.int .i64 0]) M) fun t=>splitB (cR (ig .i64 (fI (cY .i64 c g) a) b) (ig .i64 e a)) (ah cx tH [.int .i64 (fI (cY .i64 c g) a),.int .i64 b,.int .i64 a] f fun V H=>∃l U,V=(.tuple #[.int .i64 l,.bool U])/\t b a l c d H) (t b a e c d f))))) fun p=>ah cx lP [.agg #[.int .i64 b,.int .i64 a,.int .i64 e,.int .i64 c,.int .i64 d]] (bump m 2) fun T k=>∃r,T=(.bool r)/\splitB (!r) (p true k) (ah cx iF [.int .i64 g] k fun L G=>∃s,L=(.bool s)/\p (!s) G)
theorem EI{b a e c d g:Int}{m:Mem}{Q:Value->Mem->Prop}(h:B5 b a e c d g m Q):ah cx wN [.agg #[.int .i64 b,.int .i64 a,.int .i64 e,.int .i64 c,.int .i64 d],.int .i64 g] m Q:=
 ah.of (fn:=Tryz.f90) (LS:=[2,4]) (ann:=[none,none,some ⟨[1],[(9,.bool)],[(2,0,0),(4,1,0)],[0,1],[],2⟩,none,none,none,none,none,none,none,none,none,none,none,none,some ⟨[],[(76,.int .i64),(77,.int .i64),(78,.int .i64),(79,.int .i64),(80,.int .i64)],[(2,0,0),(4,1,0)],[1],[(0,[76,77,78,79,80])],4⟩]) dm dh (by kernel_rfl) (by kernel_rfl) (Eq.mp (by kernel_rfl) h)
def DZ(d g a f b j:Int)(m:Mem)(Q:Value->Mem->Prop):Prop:=
 dN (fun(u:Bool) (e:Mem)=>splitB u (Q (.tuple #[.agg #[.int .i64 d,.int .i64 g,.int .i64 a,.int .i64 f,.int .i64 b],.int .i64 1]) e) (splitB (dV b 1) (Q (.tuple #[.agg #[.int .i64 d,.int .i64 g,.int .i64 a,.int .i64 f,.int .i64 b],.int .i64 4]) e) (ah cx ml [.agg #[.int .i64 d,.int .i64 g,.int .i64 (cY .i64 a j),.int .i64 f,.int .i64 b]] e fun t s=>∃l o k n q,t=(.agg #[.int .i64 l,.int .i64 o,.int .i64 k,.int .i64 n,.int .i64 q])/\Q (.tuple #[.agg #[.int .i64 l,.int .i64 o,.int .i64 k,.int .i64 n,.int .i64 q],.int .i64 0]) s))) fun i=>ah cx lP [.agg #[.int .i64 d,.int .i64 g,.int .i64 a,.int .i64 f,.int .i64 b]] (bump m 2) fun r c=>∃p,r=(.bool p)/\splitB (!p) (i true c) (splitB (cR j 1) (i true c) (i (cR a j) c))
theorem Gz{d g a f b j:Int}{m:Mem}{Q:Value->Mem->Prop}(h:DZ d g a f b j m Q):ah cx uA [.agg #[.int .i64 d,.int .i64 g,.int .i64 a,.int .i64 f,.int .i64 b],.int .i64 j] m Q:=
 ah.of (fn:=Tryz.f79) (LS:=[2,4]) (ann:=[none,none,some ⟨[1],[(6,.bool)],[(2,0,0),(4,1,0)],[0,1],[],2⟩]) dm dh (by kernel_rfl) (by kernel_rfl) (Eq.mp (by kernel_rfl) h)
def B2(c b d a e:Int)(m:Mem)(Q:Value->Mem->Prop):Prop:=
 ah cx lP [.agg #[.int .i64 c,.int .i64 b,.int .i64 d,.int .i64 a,.int .i64 e]] (bump m 2) fun i f=>∃g,i=(.bool g)/\splitB (!g) (Q (.tuple #[.agg #[.int .i64 c,.int .i64 b,.int .i64 d,.int .i64 a,.int .i64 e],.int .i64 1]) f) (splitB (cU e 0) (Q (.tuple #[.agg #[.int .i64 c,.int .i64 b,.int .i64 d,.int .i64 a,.int .i64 e],.int .i64 4]) f) (Q (.tuple #[.agg #[.int .i64 c,.int .i64 b,.int .i64 d,.int .i64 a,.int .i64 0],.int .i64 0]) f))
theorem EF{c b d a e:Int}{m:Mem}{Q:Value->Mem->Prop}(h:B2 c b d a e m Q):ah cx wL [.agg #[.int .i64 c,.int .i64 b,.int .i64 d,.int .i64 a,.int .i64 e]] m Q:=
 ah.of (fn:=Tryz.f110) (LS:=[1,2]) (ann:=[]) dm dh (by kernel_rfl) (by kernel_rfl) (Eq.mp (by kernel_rfl) h)
def B3(c b d a e:Int)(m:Mem)(Q:Value->Mem->Prop):Prop:=
 ah cx lP [.agg #[.int .i64 c,.int .i64 b,.int .i64 d,.int .i64 a,.int .i64 e]] (bump m 2) fun i f=>∃g,i=(.bool g)/\splitB (!g) (Q (.tuple #[.agg #[.int .i64 c,.int .i64 b,.int .i64 d,.int .i64 a,.int .i64 e],.int .i64 1]) f) (splitB (dV e 1) (Q (.tuple #[.agg #[.int .i64 c,.int .i64 b,.int .i64 d,.int .i64 a,.int .i64 e],.int .i64 4]) f) (Q (.tuple #[.agg #[.int .i64 c,.int .i64 b,.int .i64 d,.int .i64 a,.int .i64 2],.int .i64 0]) f))
theorem EG{c b d a e:Int}{m:Mem}{Q:Value->Mem->Prop}(h:B3 c b d a e m Q):ah cx wM [.agg #[.int .i64 c,.int .i64 b,.int .i64 d,.int .i64 a,.int .i64 e]] m Q:=
 ah.of (fn:=Tryz.f115) (LS:=[1,2]) (ann:=[]) dm dh (by kernel_rfl) (by kernel_rfl) (Eq.mp (by kernel_rfl) h)
def B4(a d i c b u:Int)(m:Mem)(Q:Value->Mem->Prop):Prop:=
 dN (fun(y:Bool) (l:Mem)=>splitB y (Q (.tuple #[.agg #[.int .i64 a,.int .i64 d,.int .i64 i,.int .i64 c,.int .i64 b],.bool false]) l) (ah cx yB [.int .i64 u,.int .i64 c,.int .i64 d] l fun w k=>∃n p,w=(.tuple #[.int .i64 n,.bool p])/\splitB (!p) (Q (.tuple #[.agg #[.int .i64 a,.int .i64 d,.int .i64 i,.int .i64 c,.int .i64 b],.bool false]) k) (ah cx ml [.agg #[.int .i64 a,.int .i64 d,.int .i64 a,.int .i64 n,.int .i64 b]] k fun v t=>∃s j o r q,v=(.agg #[.int .i64 s,.int .i64 j,.int .i64 o,.int .i64 r,.int .i64 q])/\Q (.tuple #[.agg #[.int .i64 s,.int .i64 j,.int .i64 o,.int .i64 r,.int .i64 q],.bool true]) t))) fun e=>ah cx lP [.agg #[.int .i64 a,.int .i64 d,.int .i64 i,.int .i64 c,.int .i64 b]] (bump m 2) fun x f=>∃g,x=(.bool g)/\splitB (!g) (e true f) (splitB (cU b 0) (e true f) (e (cR u c) f))
theorem EH{a d i c b u:Int}{m:Mem}{Q:Value->Mem->Prop}(h:B4 a d i c b u m Q):ah cx sB [.agg #[.int .i64 a,.int .i64 d,.int .i64 i,.int .i64 c,.int .i64 b],.int .i64 u] m Q:=
 ah.of (fn:=Tryz.f73) (LS:=[2,4]) (ann:=[none,none,some ⟨[1],[(21,.bool)],[(2,0,0),(4,1,0)],[0,1],[],2⟩]) dm dh (by kernel_rfl) (by kernel_rfl) (Eq.mp (by kernel_rfl) h)
def yD(b c:Int)(m:Mem)(Q:Value->Mem->Prop):Prop:=
 dN (fun(e:Bool) (d:Mem)=>splitB e (Q (.tuple #[.int .i64 0,.int .i64 0,.bool false]) d) (Q (.tuple #[.int .i64 (ig .i64 (cY .i64 b 1) c),.int .i64 (ig .i64 b c),.bool true]) d)) fun a=>splitB (cR b 1) (a true m) (splitB (cR 64 b) (a true m) (splitB (cR c 1) (a true m) (a (cR 1048576 c) m)))
theorem B6{b c:Int}{m:Mem}{Q:Value->Mem->Prop}(h:yD b c m Q):ah cx tJ [.int .i64 b,.int .i64 c] m Q:=
 ah.of (fn:=Tryz.f146) (LS:=[]) (ann:=[none,none,some ⟨[0,1],[(20,.bool)],[],[],[],0⟩]) dm dh (by kernel_rfl) (by kernel_rfl) (Eq.mp (by kernel_rfl) h)
def xo(g i j f:Int)(m:Mem)(Q:Value->Mem->Prop):Prop:=
 ah cx tJ [.int .i64 g,.int .i64 i] m fun d b=>∃e a c,d=(.tuple #[.int .i64 e,.int .i64 a,.bool c])/\splitB c (splitB (leI a j) (Q (.bool (leI a f)) b) (Q (.bool false) b)) (Q (.bool false) b)
theorem AB{g i j f:Int}{m:Mem}{Q:Value->Mem->Prop}(h:xo g i j f m Q):ah cx rQ [.int .i64 g,.int .i64 i,.int .i64 j,.int .i64 f] m Q:=
 ah.of (fn:=Tryz.f114) (LS:=[]) (ann:=[]) dm dh (by kernel_rfl) (by kernel_rfl) (Eq.mp (by kernel_rfl) h)
def xr(b a:Int)(m:Mem)(Q:Value->Mem->Prop):Prop:=
 splitB (cR b 0) (Q (.bool true) (bump m 1)) (splitB (cR 8 b) (Q (.bool true) (bump m 1)) (splitB (cR a 1) (Q (.bool true) (bump m 1)) (Q (.bool (cR 2147483648 a)) (bump m 1))))
theorem AL{b a:Int}{m:Mem}{Q:Value->Mem->Prop}(h:xr b a m Q):ah cx rT [.agg #[.int .i64 b,.int .i64 a]] m Q:=
 ah.of (fn:=Tryz.f158) (LS:=[1]) (ann:=[]) dm dh (by kernel_rfl) (by kernel_rfl) (Eq.mp (by kernel_rfl) h)
def lm(r:Option Addr)(n s:Nat)(q:Value)(m:Mem)(Q:Value->Mem->Prop):Prop:=
 ∃c:Int->Mem->Nat->Prop,(∃o:Nat,c 0 m o)/\∀a b j,c a b j->splitB (cR a (aQ n)) ((0<=a/\a<((n:Nat):Int))/\(da r fun f e=>∃l,rd b f (e+Int.toNat a*2)=some (.int .i64 l)/\∃i,rd b f (e+Int.toNat a*2+1)=some (.int .i64 i)/\(jT cx b q [.agg #[.int .i64 l,.int .i64 i]] fun p g=>∃k,p=(.bool k)/\splitB k (Q (.int .i64 a) g) (∃d:Nat,d<j/\c (bh .i64 a 1) g d)))) (Q (.int .i64 (-1:Int)) b)
theorem pB{r:Option Addr}{n s:Nat}{q:Value}{m:Mem}{Q:Value->Mem->Prop}(h:lm r n s q m Q):ah cx iu [.slice r n s,q] m Q:=
 ah.of (fn:=Tryz.f159) (LS:=[]) (ann:=[none,none,none,some ⟨[0,1,7],[(8,.int .i64)],[],[],[],0⟩]) dm dh (by kernel_rfl) (by kernel_rfl) (Eq.mp (by kernel_rfl) h)
def jR(g:Option Addr)(f e:Nat)(d:Value)(m:Mem)(Q:Value->Mem->Prop):Prop:=
 ah cx iu [.slice g f e,d] m fun b c=>∃a,b=(.int .i64 a)/\Q (.bool (leI 0 a)) c
theorem nU{g:Option Addr}{f e:Nat}{d:Value}{m:Mem}{Q:Value->Mem->Prop}(h:jR g f e d m Q):ah cx fT [.slice g f e,d] m Q:=
 ah.of (fn:=Tryz.f129) (LS:=[]) (ann:=[]) dm dh (by kernel_rfl) (by kernel_rfl) (Eq.mp (by kernel_rfl) h)
def Aa(f:Option Addr)(a e:Nat)(m:Mem)(Q:Value->Mem->Prop):Prop:=
 splitB (leI 1 (aQ a)) (splitB (leI (aQ a) 8) (ah cx fT [.slice f a e,.func (.func rT) #[] #[]] m fun c d=>∃b,c=(.bool b)/\Q (.bool (!b)) d) (Q (.bool false) m)) (Q (.bool false) m)
theorem C4{f:Option Addr}{a e:Nat}{m:Mem}{Q:Value->Mem->Prop}(h:Aa f a e m Q):ah cx ot [.slice f a e] m Q:=
 ah.of (fn:=Tryz.f128) (LS:=[]) (ann:=[]) dm dh (by kernel_rfl) (by kernel_rfl) (Eq.mp (by kernel_rfl) h)
def xt(f i:Int)(g:Option Addr)(m:Mem)(Q:Value->Mem->Prop):Prop:=
 da g fun b d=>∃c a e,rd (bump m 1) b d=some (.slice c a e)/\Q (.bool (cR (aQ a) f)) (bump m 1)
theorem AN{f i:Int}{g:Option Addr}{m:Mem}{Q:Value->Mem->Prop}(h:xt f i g m Q):ah cx rR [.agg #[.int .i64 f,.int .i64 i],.pointer g] m Q:=
 ah.of (fn:=Tryz.f127) (LS:=[2]) (ann:=[]) dm dh (by kernel_rfl) (by kernel_rfl) (Eq.mp (by kernel_rfl) h)
def Ab(k n:Option Addr)(i g o l:Nat)(m:Mem)(Q:Value->Mem->Prop):Prop:=
 cZ (newO m (row [.slice n o l] ka false)) fun j=>ah cx ot [.slice k i g] j fun d c=>∃b,d=(.bool b)/\splitB b (ah cx fT [.slice k i g,.func (.func rR) #[] #[.pointer (some ⟨m.nx,0,none⟩)]] c fun f e=>∃a,f=(.bool a)/\Q (.bool (!a)) e) (Q (.bool false) c)
theorem C5{k n:Option Addr}{i g o l:Nat}{m:Mem}{Q:Value->Mem->Prop}(h:Ab k n i g o l m Q):ah cx vf [.slice k i g,.slice n o l] m Q:=
 ah.of (fn:=Tryz.f87) (LS:=[]) (ann:=[]) dm dh (by kernel_rfl) (by kernel_rfl) (Eq.mp (by kernel_rfl) h)
def Ch(o b f:Int)(n:Option Addr)(c p:Nat)(m:Mem)(Q:Value->Mem->Prop):Prop:=
 dN (fun(d:Mem)=>splitB (cU b (aQ c)) (Q (.bool (cU f 0)) d) ((0<=b/\b<((c:Nat):Int))/\(da n fun j i=>∃g,rd (bump d 11) j (i+Int.toNat b*2+1)=some (.int .i64 g)/\Q (.bool (leI f g)) (bump d 11)))) fun l=>splitB (cR o 1) (Q (.bool false) (bump m 1)) (ah cx ot [.slice n c p] (bump m 1) fun k a=>∃e,k=(.bool e)/\splitB (!e) (Q (.bool false) a) (splitB (cR b 0) (Q (.bool false) a) (splitB (cR (aQ c) b) (Q (.bool false) a) (splitB (cR f 0) (Q (.bool false) a) (l a)))))
theorem EO{o b f:Int}{n:Option Addr}{c p:Nat}{m:Mem}{Q:Value->Mem->Prop}(h:Ch o b f n c p m Q):ah cx wZ [.agg #[.int .i64 o,.slice n c p,.int .i64 b,.int .i64 f]] m Q:=
 ah.of (fn:=Tryz.f117) (LS:=[1]) (ann:=[none,some ⟨[],[],[(1,0,0)],[0],[],1⟩]) dm dh (by kernel_rfl) (by kernel_rfl) (Eq.mp (by kernel_rfl) h)
def Eb(j:Int)(o:Option Addr)(q n:Nat)(m:Mem)(Q:Value->Mem->Prop):Prop:=
 dN (fun(k:Bool) (a:Mem)=>splitB k (Q (.tuple #[.agg #[.int .i64 0,.slice none 0 0,.int .i64 0,.int .i64 0],.bool false]) a) (cZ (newO a (row [] fV false)) fun l=>∃f e d b,cQ cx l [vh,vh] [.slice (some ⟨a.nx,0,none⟩) 0 0,.slice o q n]=some (.slice f e d,b)/\Q (.tuple #[.agg #[.int .i64 j,.slice f e d,.int .i64 0,.int .i64 0],.bool true]) b)) fun g=>ah cx ot [.slice o q n] (bump m 1) fun p i=>∃c,p=(.bool c)/\splitB (!c) (g true i) (g (cR j 1) i)
theorem GF{j:Int}{o:Option Addr}{q n:Nat}{m:Mem}{Q:Value->Mem->Prop}(h:Eb j o q n m Q):ah cx yG [.int .i64 j,.slice o q n] m Q:=
 ah.of (fn:=Tryz.f89) (LS:=[4]) (ann:=[none,none,some ⟨[0,1],[(12,.bool)],[(4,0,0)],[0],[],1⟩]) dm dh (by kernel_rfl) (by kernel_rfl) (Eq.mp (by kernel_rfl) h)
def Ci(p a q:Int)(o:Option Addr)(d r:Nat)(m:Mem)(Q:Value->Mem->Prop):Prop:=
 dN (fun(l:Bool) (b:Mem)=>splitB l (Q (.tuple #[.agg #[.int .i64 0,.int .i64 0],.bool false]) b) ((0<=a/\a<((d:Nat):Int))/\(da o fun e c=>∃f,rd b e (c+Int.toNat a*2)=some (.int .i64 f)/\∃k,rd b e (c+Int.toNat a*2+1)=some (.int .i64 k)/\Q (.tuple #[.agg #[.int .i64 f,.int .i64 k],.bool true]) b))) fun j=>ah cx wZ [.agg #[.int .i64 p,.slice o d r,.int .i64 a,.int .i64 q]] (bump m 2) fun n g=>∃i,n=(.bool i)/\splitB (!i) (j true g) (j (cU a (aQ d)) g)
theorem EP{p a q:Int}{o:Option Addr}{d r:Nat}{m:Mem}{Q:Value->Mem->Prop}(h:Ci p a q o d r m Q):ah cx lW [.agg #[.int .i64 p,.slice o d r,.int .i64 a,.int .i64 q]] m Q:=
 ah.of (fn:=Tryz.f78) (LS:=[1,2]) (ann:=[none,none,some ⟨[],[(14,.bool)],[(1,0,0),(2,1,0)],[0,1],[],2⟩]) dm dh (by kernel_rfl) (by kernel_rfl) (Eq.mp (by kernel_rfl) h)
def Ea(d c a k:Int)(j:Option Addr)(g f:Nat)(m:Mem)(Q:Value->Mem->Prop):Prop:=
 ah cx lW [.agg #[.int .i64 d,.slice j g f,.int .i64 c,.int .i64 a]] (bump m 2) fun n i=>∃l b e,n=(.tuple #[.agg #[.int .i64 l,.int .i64 b],.bool e])/\splitB (!e) (Q (.tuple #[.agg #[.int .i64 d,.slice j g f,.int .i64 c,.int .i64 a],.int .i64 0]) (bump i 1)) (Q (.tuple #[.agg #[.int .i64 d,.slice j g f,.int .i64 c,.int .i64 (bh .i64 a (fI (jP k 0) (cY .i64 b a)))],.int .i64 (fI (jP k 0) (cY .i64 b a))]) (bump i 1))
theorem GE{d c a k:Int}{j:Option Addr}{g f:Nat}{m:Mem}{Q:Value->Mem->Prop}(h:Ea d c a k j g f m Q):ah cx uD [.agg #[.int .i64 d,.slice j g f,.int .i64 c,.int .i64 a],.int .i64 k] m Q:=
 ah.of (fn:=Tryz.f80) (LS:=[2,4,6]) (ann:=[]) dm dh (by kernel_rfl) (by kernel_rfl) (Eq.mp (by kernel_rfl) h)
def Cj(b i c:Int)(l:Option Addr)(e d:Nat)(m:Mem)(Q:Value->Mem->Prop):Prop:=
 ah cx lW [.agg #[.int .i64 b,.slice l e d,.int .i64 i,.int .i64 c]] (bump m 2) fun n g=>∃o a k,n=(.tuple #[.agg #[.int .i64 o,.int .i64 a],.bool k])/\(dN (fun(p:Bool) (f:Mem)=>splitB p (Q (.tuple #[.agg #[.int .i64 b,.slice l e d,.int .i64 i,.int .i64 c],.bool false]) f) (Q (.tuple #[.agg #[.int .i64 b,.slice l e d,.int .i64 (bh .i64 i 1),.int .i64 0],.bool true]) f)) fun j=>splitB (!k) (j true (bump g 1)) (j (dV c a) (bump g 1)))
theorem EQ{b i c:Int}{l:Option Addr}{e d:Nat}{m:Mem}{Q:Value->Mem->Prop}(h:Cj b i c l e d m Q):ah cx wY [.agg #[.int .i64 b,.slice l e d,.int .i64 i,.int .i64 c]] m Q:=
 ah.of (fn:=Tryz.f109) (LS:=[1,2,4]) (ann:=[none,none,none,some ⟨[],[(19,.bool)],[(1,0,0),(2,1,0)],[0,1],[],4⟩]) dm dh (by kernel_rfl) (by kernel_rfl) (Eq.mp (by kernel_rfl) h)
def ke(a:Int)(m:Mem)(Q:Value->Mem->Prop):Prop:=
 Q (.bool (dV a a)) m
theorem nr{a:Int}{m:Mem}{Q:Value->Mem->Prop}(h:ke a m Q):ah cx gy [.int .i64 a] m Q:=
 ah.of (fn:=Tryz.f143) (LS:=[]) (ann:=[]) dm dh (by kernel_rfl) (by kernel_rfl) (Eq.mp (by kernel_rfl) h)
def iV(c d:Int)(m:Mem)(Q:Value->Mem->Prop):Prop:=
 ah cx gy [.int .i64 c] m fun f i=>∃e,f=(.bool e)/\(ah cx gy [.int .i64 d] i fun g a=>∃b,g=(.bool b)/\splitB e (splitB b (Q (.int .i64 0) a) (Q (.int .i64 (-1:Int)) a)) (splitB b (Q (.int .i64 1) a) (splitB (cR c d) (Q (.int .i64 (-1:Int)) a) (splitB (cR d c) (Q (.int .i64 1) a) (Q (.int .i64 0) a)))))
theorem lQ{c d:Int}{m:Mem}{Q:Value->Mem->Prop}(h:iV c d m Q):ah cx hY [.int .i64 c,.int .i64 d] m Q:=
 ah.of (fn:=Tryz.f106) (LS:=[]) (ann:=[]) dm dh (by kernel_rfl) (by kernel_rfl) (Eq.mp (by kernel_rfl) h)
end
end Go.Proofs.YthpnifigjfplbaaGreat.vc
namespace Go.Proofs.YthpnifigjfplbaaGreat.vc
open Go Go.AX
@[reducible] def AA (s:pm.Srv):Value:=.agg #[.int .i64 s.q,.int .i64 s.p,.int .i64 s.bud,.int .i64 s.due,.int .i64 s.mode]
section
variable {m:Mem} {Q:Value->Mem->Prop}
theorem dw{r r':Value}{m m':Mem}(h:∀m',Keep m m'->Q r m')(k:Keep m m')(e:r=r'):Q r' m':=e▸h m' k
theorem oO{x:Int}(hw:Wf m)(h:∀m',Keep m m'->Q (.bool (pm.gv x)) m'):ah cx iF [.int .i64 x] m Q:=by
 apply CV;unfold zS;refine cJ (fun h1=>?_) (fun h1=>?_)
 .exact dw h (Keep.refl hw) (by simp[pm.gv,h1])
 .exact dw h (Keep.refl hw) (by simp[pm.gv,h1])
theorem Gv{x:Int}(hw:Wf m)(h:∀m',Keep m m'->Q (.tuple #[.int .i64 (pm.qP x).1,.bool (pm.qP x).2]) m'):ah cx qR [.int .i64 x] m Q:=by
 apply CW;unfold zT;refine oO hw fun m1 k1=>⟨_,rfl,?_⟩
 refine dM (fun h1=>?_) (fun h1=>?_)
 .exact dw h k1 (by simp[pm.qP,h1])
 .exact dw h k1 (by simp[pm.qP,h1])
theorem BX{x a b:Int}(hw:Wf m)(h:∀m',Keep m m'->Q (.bool (pm.rU x a b)) m'):ah cx pq [.int .i64 x,.int .i64 a,.int .i64 b] m Q:=by
 apply Gw;unfold DW;refine cJ (fun h1=>?_) (fun h1=>?_)
 .exact dw h (Keep.refl hw) (by simp[pm.rU,h1])
 .exact dw h (Keep.refl hw) (by simp[pm.rU,h1])
theorem Ou{a b:Int}(hw:Wf m)(h:∀m',Keep m m'->Q (.tuple #[.int .i64 (pm.rO a b).1,.bool (pm.rO a b).2]) m'):ah cx wK [.int .i64 a,.int .i64 b] m Q:=by
 apply EC;unfold BY dN;dsimp only;refine oO hw fun m1 k1=>⟨_,rfl,?_⟩
 refine dM (fun h1=>?_) (fun h1=>?_)
 .exact dw h k1 (by simp[pm.rO,h1])
 refine oO k1.wf fun m2 k2=>⟨_,rfl,?_⟩
 refine dM (fun h2=>?_) (fun h2=>?_)
 .exact dw h (k1.trans k2) (by simp[pm.rO,h1,h2])
 refine Gv k2.wf fun m3 k3=>⟨_,_,rfl,?_⟩
 exact dw h ((k1.trans k2).trans k3) (by simp[pm.rO,h1,h2])
theorem HR{x b:Int}(h:pm.rU x 1 b=true):x≠0:=by
 unfold pm.rU at h;simp only[Bool.and_eq_true,gh]at h;omega
theorem KP{a b c:Int}(hw:Wf m)(h:∀m',Keep m m'->Q (.tuple #[.int .i64 (pm.mX a b c).1,.bool (pm.mX a b c).2]) m'):ah cx tH [.int .i64 a,.int .i64 b,.int .i64 c] m Q:=by
 apply BZ;unfold yA dN;dsimp only;refine BX hw fun m1 k1=>⟨_,rfl,?_⟩
 refine dM (fun h1=>?_) (fun h1=>?_)
 .exact dw h k1 (by simp[pm.mX,h1])
 refine BX k1.wf fun m2 k2=>⟨_,rfl,?_⟩
 refine dM (fun h2=>?_) (fun h2=>?_)
 .exact dw h (k1.trans k2) (by simp[pm.mX,h1,h2])
 refine BX k2.wf fun m3 k3=>⟨_,rfl,?_⟩
 refine dM (fun h3=>?_) (fun h3=>?_)
 .exact dw h ((k1.trans k2).trans k3) (by simp[pm.mX,h1,h2,h3])
 .exact⟨HR h2,dw h ((k1.trans k2).trans k3) (by simp[pm.mX,h1,h2,h3])⟩
theorem PC{a b c:Int}(hw:Wf m)(h:∀m',Keep m m'->Q (.tuple #[.int .i64 (pm.jW a b c).1,.bool (pm.jW a b c).2]) m'):ah cx yB [.int .i64 a,.int .i64 b,.int .i64 c] m Q:=by
 apply Gx;unfold DX dN;dsimp only;refine oO hw fun m1 k1=>⟨_,rfl,?_⟩
 refine dM (fun h1=>?_) (fun h1=>?_)
 .exact dw h k1 (by simp[pm.jW,h1])
 refine oO k1.wf fun m2 k2=>⟨_,rfl,?_⟩
 refine dM (fun h2=>?_) (fun h2=>?_)
 .exact dw h (k1.trans k2) (by simp[pm.jW,h1,h2])
 refine BX k2.wf fun m3 k3=>⟨_,rfl,?_⟩
 have k:=(k1.trans k2).trans k3;refine dM (fun h3=>?_) (fun h3=>?_)
 .exact dw h k (by simp[pm.jW,h1,h2,h3])
 refine cJ (fun h4=>?_) (fun h4=>?_)
 .exact dw h k (by simp[pm.jW,h1,h2,h3,h4])
 refine⟨HR h3,Gv k3.wf fun m4 k4=>⟨_,_,rfl,?_⟩⟩;exact dw h (k.trans k4) (by simp[pm.jW,h1,h2,h3,h4])
theorem HS{q p:Int}(hw:Wf m)(h:∀m',Keep m m'->Q (.bool (pm.pair q p)) m'):ah cx sA [.int .i64 q,.int .i64 p] m Q:=by
 apply ED;unfold B0;refine cJ (fun h1=>cJ (fun h2=>cJ (fun h3=>?_) (fun h3=>?_)) (fun h2=>?_)) (fun h1=>?_)
 .exact dw h (Keep.refl hw) (by simp[pm.pair,h1,h2,h3])
 .exact dw h (Keep.refl hw) (by simp[pm.pair,h1,h2,h3])
 .exact dw h (Keep.refl hw) (by simp[pm.pair,h1,h2])
 .exact dw h (Keep.refl hw) (by simp[pm.pair,h1])
theorem Om{q p:Int}(hw:Wf m)(h:∀m',Keep m m'->Q (.tuple #[AA (pm.gg q p).1,.int .i64 (pm.gg q p).2]) m'):ah cx yC [.int .i64 q,.int .i64 p] m Q:=by
 apply Gy;unfold DY;refine HS hw.bump fun m1 k1=>⟨_,rfl,?_⟩
 have k:=(Keep.refl hw).bump.trans k1;refine dM (fun h1=>?_) (fun h1=>?_)
 .exact dw h k (by simp[pm.gg,h1])
 .exact dw h k (by simp[pm.gg,h1])
theorem tI{q p b d mo:Int}(hw:Wf m)(h:∀m',Keep m m'->Q (.bool (pm.jO ⟨q,p,b,d,mo⟩)) m'):ah cx lP [.agg #[.int .i64 q,.int .i64 p,.int .i64 b,.int .i64 d,.int .i64 mo]] m Q:=by
 apply EE;unfold B1;refine HS hw.bump fun m1 k1=>⟨_,rfl,?_⟩
 have k:=(Keep.refl hw).bump.trans k1;refine cJ (fun h1=>cJ (fun h2=>cJ (fun h3=>?_) (fun h3=>?_)) (fun h2=>?_)) (fun h1=>?_)
 .refine oO k1.wf fun m2 k2=>⟨_,rfl,?_⟩
  have k:=k.trans k2;refine cJ (fun h4=>cJ (fun h5=>cJ (fun h6=>cJ (fun h7=>?_) (fun h7=>?_)) (fun h6=>?_)) (fun h5=>?_)) (fun h4=>?_)
  .exact dw h k (by simp[pm.jO,h1,h2,h3,h4,h5,h6,h7])
  .exact dw h k (by simp[pm.jO,h1,h2,h3,h4,h5,h6,h7])
  .exact dw h k (by simp[pm.jO,h1,h2,h3,h4,h5,h6])
  .exact dw h k (by simp[pm.jO,h1,h2,h3,h4,h5])
  .exact dw h k (by simp[pm.jO,h1,h2,h3,h4])
 .exact dw h k (by simp[pm.jO,h1,h2,h3])
 .exact dw h k (by simp[pm.jO,h1,h2])
 .exact dw h k (by simp[pm.jO,h1])
theorem rs{q p b d mo:Int}(hw:Wf m)(h:∀m',Keep m m'->Q (AA (pm.iU ⟨q,p,b,d,mo⟩)) m'):ah cx ml [.agg #[.int .i64 q,.int .i64 p,.int .i64 b,.int .i64 d,.int .i64 mo]] m Q:=by
 apply CX;unfold zU;refine cJ (fun h1=>?_) (fun h1=>?_)
 .exact dw h (Keep.refl hw).bump (by simp[pm.iU,h1])
 .exact dw h (Keep.refl hw).bump (by simp[pm.iU,h1])
theorem HT{q p b d mo x:Int}(hw:Wf m)(h:∀m',Keep m m'->Q (.tuple #[AA (pm.dK ⟨q,p,b,d,mo⟩ x).1,.int .i64 (pm.dK ⟨q,p,b,d,mo⟩ x).2]) m'):ah cx uA [.agg #[.int .i64 q,.int .i64 p,.int .i64 b,.int .i64 d,.int .i64 mo],.int .i64 x] m Q:=by
 apply Gz;unfold DZ dN;dsimp only;refine tI hw.bump fun m1 k1=>⟨_,rfl,?_⟩
 have k:=(Keep.refl hw).bump.trans k1;refine dM (fun h1=>?_) (fun h1=>?_)
 .rw[eF];exact dw h k (by simp[pm.dK,h1])
 refine cJ (fun h2=>?_) (fun h2=>?_)
 .rw[eF];exact dw h k (by simp[pm.dK,h1,h2])
 refine cJ (fun h3=>?_) (fun h3=>?_)
 .exact dw h k (by simp[pm.dK,h1,h2,h3])
 .refine fX (fun h4=>?_) (fun h4=>?_)
  .have h4:=jz.2 h4;exact dw h k (by simp[pm.dK,h1,h2,h3,h4])
  .have h4:=fH.2 h4;refine rs k1.wf fun m2 k2=>⟨_,_,_,_,_,rfl,?_⟩
   exact dw h (k.trans k2) (by simp[pm.dK,h1,h2,h3,h4])
theorem MJ{q p b d mo:Int}(hw:Wf m)(h:∀m',Keep m m'->Q (.tuple #[AA (pm.fG ⟨q,p,b,d,mo⟩).1,.int .i64 (pm.fG ⟨q,p,b,d,mo⟩).2]) m'):ah cx wL [.agg #[.int .i64 q,.int .i64 p,.int .i64 b,.int .i64 d,.int .i64 mo]] m Q:=by
 apply EF;unfold B2;refine tI hw.bump fun m1 k1=>⟨_,rfl,?_⟩
 have k:=(Keep.refl hw).bump.trans k1;refine dM (fun h1=>?_) (fun h1=>cJ (fun h2=>?_) (fun h2=>?_))
 .exact dw h k (by simp[pm.fG,h1])
 .exact dw h k (by simp[pm.fG,h1,h2])
 .exact dw h k (by simp[pm.fG,h1,h2])
theorem MK{q p b d mo:Int}(hw:Wf m)(h:∀m',Keep m m'->Q (.tuple #[AA (pm.eP ⟨q,p,b,d,mo⟩).1,.int .i64 (pm.eP ⟨q,p,b,d,mo⟩).2]) m'):ah cx wM [.agg #[.int .i64 q,.int .i64 p,.int .i64 b,.int .i64 d,.int .i64 mo]] m Q:=by
 apply EG;unfold B3;refine tI hw.bump fun m1 k1=>⟨_,rfl,?_⟩
 have k:=(Keep.refl hw).bump.trans k1;refine dM (fun h1=>?_) (fun h1=>cJ (fun h2=>?_) (fun h2=>?_))
 .exact dw h k (by simp[pm.eP,h1])
 .exact dw h k (by simp[pm.eP,h1,h2])
 .exact dw h k (by simp[pm.eP,h1,h2])
theorem ML{q p b d mo x:Int}(hw:Wf m)(h:∀m',Keep m m'->Q (.tuple #[AA (pm.dE ⟨q,p,b,d,mo⟩ x).1,.bool (pm.dE ⟨q,p,b,d,mo⟩ x).2]) m'):ah cx sB [.agg #[.int .i64 q,.int .i64 p,.int .i64 b,.int .i64 d,.int .i64 mo],.int .i64 x] m Q:=by
 apply EH;unfold B4 dN;dsimp only;refine tI hw.bump fun m1 k1=>⟨_,rfl,?_⟩
 have k:=(Keep.refl hw).bump.trans k1;refine dM (fun h1=>?_) (fun h1=>?_)
 .rw[eF];exact dw h k (by simp[pm.dE,h1])
 refine cJ (fun h2=>?_) (fun h2=>?_)
 .rw[eF];exact dw h k (by simp[pm.dE,h1,h2])
 refine cJ (fun h3=>?_) (fun h3=>?_)
 .exact dw h k (by simp[pm.dE,h1,h2,h3])
 refine PC k1.wf fun m2 k2=>⟨_,_,rfl,?_⟩
 have k:=k.trans k2;refine dM (fun h4=>?_) (fun h4=>?_)
 .exact dw h k (by simp[pm.dE,h1,h2,h3,h4])
 refine rs k2.wf fun m3 k3=>⟨_,_,_,_,_,rfl,?_⟩
 exact dw h (k.trans k3) (by simp[pm.dE,h1,h2,h3,h4])
theorem MM{q p b d mo x:Int}(hw:Wf m)(h:∀m',Keep m m'->Q (.tuple #[AA (pm.gw ⟨q,p,b,d,mo⟩ x).1,.int .i64 (pm.gw ⟨q,p,b,d,mo⟩ x).2]) m'):ah cx wN [.agg #[.int .i64 q,.int .i64 p,.int .i64 b,.int .i64 d,.int .i64 mo],.int .i64 x] m Q:=by
 apply EI;unfold B5 dN;dsimp only;refine tI hw.bump fun m1 k1=>⟨_,rfl,?_⟩
 have k:=(Keep.refl hw).bump.trans k1;refine dM (fun h1=>?_) (fun h1=>?_)
 .rw[eF];exact dw h k (by simp[pm.gw,h1])
 refine oO k1.wf fun m2 k2=>⟨_,rfl,?_⟩
 have k:=k.trans k2;refine dM (fun h2=>?_) (fun h2=>?_)
 .exact dw h k (by simp[pm.gw,h1,h2])
 refine cJ (fun h3=>?_) (fun h3=>?_)
 .exact dw h k (by simp[pm.gw,h1,h2,h3])
 refine cJ (fun h4=>?_) (fun h4=>?_)
 .refine Ou k2.wf fun m3 k3=>⟨_,_,rfl,?_⟩
  have k:=k.trans k3;refine dM (fun h5=>?_) (fun h5=>?_)
  .exact dw h k (by simp[pm.gw,h1,h2,h3,h4,h5])
  refine rs k3.wf fun m4 k4=>⟨_,_,_,_,_,rfl,?_⟩
  exact dw h (k.trans k4) (by simp[pm.gw,h1,h2,h3,h4,h5])
 .refine cJ (fun h5=>?_) (fun h5=>?_)
  .refine KP k2.wf fun m3 k3=>⟨_,_,rfl,?_⟩
   have k:=k.trans k3;refine rs k3.wf fun m4 k4=>⟨_,_,_,_,_,rfl,?_⟩
   exact dw h (k.trans k4) (by simp[pm.gw,h1,h2,h3,h4,h5])
  .refine rs k2.wf fun m4 k4=>⟨_,_,_,_,_,rfl,?_⟩
   exact dw h (k.trans k4) (by simp[pm.gw,h1,h2,h3,h4,h5])
theorem KQ{a b:Int}(hw:Wf m)(h:∀m',Keep m m'->Q (.tuple #[.int .i64 (pm.mY a b).1,.int .i64 (pm.mY a b).2.1,.bool (pm.mY a b).2.2]) m'):ah cx tJ [.int .i64 a,.int .i64 b] m Q:=by
 apply B6;unfold yD dN;dsimp only;have k:=Keep.refl hw;refine cJ (fun h1=>?_) (fun h1=>cJ (fun h2=>?_) (fun h2=>cJ (fun h3=>?_) (fun h3=>cJ (fun h4=>?_) (fun h4=>?_))))
 .rw[eF];exact dw h k (by simp[pm.mY,h1])
 .rw[eF];exact dw h k (by simp[pm.mY,h1,h2])
 .rw[eF];exact dw h k (by simp[pm.mY,h1,h2,h3])
 .exact dw h k (by simp[pm.mY,h1,h2,h3,h4])
 .exact dw h k (by simp[pm.mY,h1,h2,h3,h4])
theorem I0{a b c d:Int}(hw:Wf m)(h:∀m',Keep m m'->Q (.bool (pm.pg a b c d)) m'):ah cx rQ [.int .i64 a,.int .i64 b,.int .i64 c,.int .i64 d] m Q:=by
 apply AB;unfold xo;refine KQ hw fun m1 k1=>⟨_,_,_,rfl,?_⟩
 refine cJ (fun h1=>cJ (fun h2=>?_) (fun h2=>?_)) (fun h1=>?_)
 .exact dw h k1 (by simp[pm.pg,h1,h2])
 .exact dw h k1 (by simp[pm.pg,h1,h2])
 .exact dw h k1 (by simp[pm.pg,h1])
theorem rt{x:Int}(h:Q (.bool false) m):ah cx gy [.int .i64 x] m Q:=by
 apply nr;unfold ke;rw[Ah];exact h
theorem uV{x y:Int}(h:Q (.int .i64 (pl.c2 x y)) m):ah cx hY [.int .i64 x,.int .i64 y] m Q:=by
 apply lQ;unfold iV;refine rt ⟨_,rfl,rt ⟨_,rfl,?_⟩⟩;unfold pl.c2 at h;rw[gi,gi];simp only[fb,gE,dS];exact⟨fun e=>by rw[if_pos e]at h;exact h,fun e=>⟨fun e2=>by rw[if_neg (by omega),if_pos e2]at h;exact h,fun e2=>by rw[if_neg (by omega),if_neg (by omega)]at h;exact h⟩⟩
end
end Go.Proofs.YthpnifigjfplbaaGreat.vc
namespace Go.Proofs.YthpnifigjfplbaaGreat.vc
open Go Go.AX
@[reducible] def M8 (j:pm.Job) (a:Option Addr) (n c:Nat):Value:=.agg #[.int .i64 j.num,.slice a n c,.int .i64 j.at_,.int .i64 j.done]
theorem C3{α : Type}{f:α->Bool}{l:List α}:leI 0 (match l.findIdx? f with|some i=>(i:Int)|none=>-1)=l.any f:=by
 cases h:l.findIdx? f with
 | none=>
  rw[List.findIdx?_eq_none_iff]at h;have:l.any f=false:=List.any_eq_false.2 fun x hx=>by rw[h x hx];simp
  rw[this];simp[leI]
 | some i=>
  obtain⟨hi,h1,_⟩:=List.findIdx?_eq_some_iff_getElem.1 h;have:l.any f=true:=List.any_eq_true.2 ⟨_,List.getElem_mem hi,h1⟩;rw[this];simp[leI]
section
variable {m:Mem} {Q:Value->Mem->Prop}
theorem OK{v:Value}{f:pm.Step->Bool}{a:Option Addr}{n c:Nat}{l:List pm.Step}(hw:Wf m)(ha:Arr encP 2 m a n l)(hn:n<=4611686018427387904)
  (hf:∀x m1 (R:Value->Mem->Prop),Keep m m1->(∀m2,Keep m1 m2->R (.bool (f x)) m2)->jT cx m1 v [.agg #[.int .i64 x.1,.int .i64 x.2]] R)
  (h:∀m',Keep m m'->Q (.int .i64 (match l.findIdx? f with|some i=>(i:Int)|none=>-1)) m'):ah cx iu [.slice a n c,v] m Q:=by
 apply pB;unfold lm;refine pD hn (fun k m1=>Keep m m1/\∀j x,j<k->l[j]? = some x->f x=false) ⟨Keep.refl hw,fun j x hj=>by omega⟩ ?_;rintro k m1 hk ⟨k1,hb⟩ I w hI;refine dH (fun hlt=>?_) (fun hge=>?_)
 .obtain⟨x,hx⟩:=ha.get hlt;refine ha.open hx fun b o hc=>?_
  have hc1:=hc.keep hw k1;refine⟨x.1,hc1 0 _ rfl,x.2,hc1 1 _ rfl,hf x m1 _ k1 fun m2 k2=>⟨_,rfl,cJ (fun h1=>?_) (fun h1=>?_)⟩⟩
  .refine dw h (k1.trans k2) ?_;obtain⟨hlk1,hlk2⟩:=(List.getElem?_eq_some_iff.1 hx);have:l.findIdx? f=some k:=List.findIdx?_eq_some_iff_getElem.2 ⟨hlk1,by rw[hlk2];exact h1,fun j hj=>by rw[hb j _ hj (List.getElem?_eq_getElem (by omega))];simp⟩;rw[this]
  .exact hI m2 hlt ⟨k1.trans k2,fun j y hj hy=>by
    by_cases e:j=k
    ·subst e;rw[hx]at hy;cases hy;exact h1
    ·exact hb j y (by omega) hy⟩
 .refine dw h k1 ?_;have:l.findIdx? f=none:=List.findIdx?_eq_none_iff.2 fun x hx=>by
   obtain⟨i,hi⟩:=List.getElem?_of_mem hx;have:=(List.getElem?_eq_some_iff.1 hi).1;exact hb i x (by have:=ha.1;omega) hi
  rw[this]
theorem H0{v:Value}{f:pm.Step->Bool}{a:Option Addr}{n c:Nat}{l:List pm.Step}(hw:Wf m)(ha:Arr encP 2 m a n l)(hn:n<=4611686018427387904)
  (hf:∀x m1 (R:Value->Mem->Prop),Keep m m1->(∀m2,Keep m1 m2->R (.bool (f x)) m2)->jT cx m1 v [.agg #[.int .i64 x.1,.int .i64 x.2]] R)
  (h:∀m',Keep m m'->Q (.bool (l.any f)) m'):ah cx fT [.slice a n c,v] m Q:=by
 apply nU;unfold jR;refine OK hw ha hn hf fun m1 k1=>⟨_,rfl,?_⟩
 rw[C3];exact h m1 k1
theorem OL{x y:Int}(hw:Wf m)(h:∀m',Keep m m'->Q (.bool (pm.wx (x,y))) m'):ah cx rT [.agg #[.int .i64 x,.int .i64 y]] m Q:=by
 apply AL;unfold xr;have k:Keep m (bump m 1):=(Keep.refl hw).bump;refine cJ (fun h1=>?_) (fun h1=>cJ (fun h2=>?_) (fun h2=>cJ (fun h3=>?_) (fun h3=>?_)))
 .exact dw h k (by simp[pm.wx,h1])
 .exact dw h k (by simp[pm.wx,h1,h2])
 .exact dw h k (by simp[pm.wx,h1,h2,h3])
 .exact dw h k (by simp[pm.wx,h1,h2,h3])
theorem AM{a:Option Addr}{n c:Nat}{p:List pm.Step}(hw:Wf m)(ha:Arr encP 2 m a n p)(h:∀m',Keep m m'->Q (.bool (pm.pGood p)) m'):ah cx ot [.slice a n c] m Q:=by
 apply C4;unfold Aa;have hl:=ha.1;subst hl;refine cJ (fun h1=>cJ (fun h2=>?_) (fun h2=>?_)) (fun h1=>?_)
 .refine H0 (f:=pm.wx) hw ha (by have:=gh.1 h2;simp[aQ]at this;omega) (fun x m1 R k1 hR=>OL k1.wf hR) fun m1 k1=>⟨_,rfl,?_⟩
  exact dw h k1 (by simp[pm.pGood,h1,h2])
 .exact dw h (Keep.refl hw) (by simp[pm.pGood,h1,h2])
 .exact dw h (Keep.refl hw) (by simp[pm.pGood,h1])
theorem D9{p:List pm.Step}(h:pm.pGood p=true):1<=p.length/\p.length<=8:=by
 unfold pm.pGood at h;simp only[Bool.and_eq_true,gh,aQ]at h;omega
theorem M9{a a2:Option Addr}{n c n2 c2:Nat}{p:List pm.Step}(hw:Wf m)(ha:Arr encP 2 m a n p)(h:∀m',Keep m m'->Q (.bool (pm.pR p n2)) m'):ah cx vf [.slice a n c,.slice a2 n2 c2] m Q:=by
 apply C5;unfold Ab;rw[cP];have k0:Keep m (newO m (row [.slice a2 n2 c2] ka false)):=(Keep.refl hw).newO;have hR:Row (newO m (row [.slice a2 n2 c2] ka false)) m.nx [.slice a2 n2 c2] ka false:=Row.newO;generalize newO m (row [.slice a2 n2 c2] ka false)=m0 at k0 hR;have ha0:=ha.keep hw k0;refine AM k0.wf ha0 fun m1 k1=>⟨_,rfl,cJ (fun h1=>?_) (fun h1=>?_)⟩
 .have hR1:=k1.row k0.wf hR;refine H0 (f:=fun s=>cR (aQ n2) s.1) k1.wf (ha0.keep k0.wf k1) (by have:=D9 h1;have:=ha.1;omega) (fun x m2 R k2 hRR=>?_) fun m2 k2=>⟨_,rfl,?_⟩
  .show ah cx rR [.agg #[.int .i64 x.1,.int .i64 x.2],.pointer (some ⟨m.nx,0,none⟩)] m2 R;apply AN;unfold xt;rw[cX];refine⟨a2,n2,c2,by rw[Hp,(k2.row k1.wf hR1).rd];rfl,hRR _ (Keep.refl k2.wf).bump⟩
  .exact dw h ((k0.trans k1).trans k2) (by simp[pm.pR,h1])
 .exact dw h (k0.trans k1) (by simp[pm.pR,h1])
theorem H1{j:pm.Job}{k:Nat}(h:j.at_=(k:Int))(hk:k<j.prog.length):j.prog[k]? = some j.cur:=by
 unfold pm.Job.cur;rw[h,Int.toNat_natCast,List.getD_eq_getElem?_getD,List.getElem?_eq_getElem hk];rfl
theorem Na{num at_ done:Int}{a:Option Addr}{n c:Nat}{p:List pm.Step}(hw:Wf m)(ha:Arr encP 2 m a n p)(h:∀m',Keep m m'->Q (.bool (pm.oB ⟨num,p,at_,done⟩)) m') :
  ah cx wZ [.agg #[.int .i64 num,.slice a n c,.int .i64 at_,.int .i64 done]] m Q:=by
 apply EO;unfold Ch dN;dsimp only;have k0:Keep m (bump m 1):=(Keep.refl hw).bump;have hl:=ha.1;refine cJ (fun h1=>?_) (fun h1=>?_)
 .exact dw h k0 (by simp[pm.oB,h1])
 refine AM k0.wf (ha.keep hw k0) fun m1 k1=>⟨_,rfl,?_⟩
 have k:=k0.trans k1;refine dM (fun h2=>?_) (fun h2=>?_)
 .exact dw h k (by simp[pm.oB,h1,h2])
 refine cJ (fun h3=>?_) (fun h3=>?_)
 .exact dw h k (by simp[pm.oB,h1,h2,h3])
 subst hl;refine cJ (fun h4=>?_) (fun h4=>?_)
 .exact dw h k (by simp[pm.oB,h1,h2,h3,h4])
 refine cJ (fun h5=>?_) (fun h5=>?_)
 .exact dw h k (by simp[pm.oB,h1,h2,h3,h4,h5])
 refine cJ (fun h6=>?_) (fun h6=>?_)
 .exact dw h k (by simp[pm.oB,h1,h2,h3,h4,h5,h6])
 .have g3:=dS.1 h3;have g4:=dS.1 h4;have g6:=dX.1 h6;simp only[aQ]at g4 g6;obtain⟨i,rfl⟩:∃i:Nat,at_=(i:Int):=⟨at_.toNat,by omega⟩
  have hlt:i<p.length:=by omega
  have hx:=H1 (j:=⟨num,p,(i:Int),done⟩) rfl hlt;refine ha.open hx fun b o hc=>?_
  refine⟨_,yP (k.bump (n:=11)) hw (hc 1 _ rfl),?_⟩;exact dw h k.bump (by simp[pm.oB,h1,h2,h3,h4,h5,h6])
theorem tM{num at_ done:Int}{a:Option Addr}{n c:Nat}{p:List pm.Step}(hw:Wf m)(ha:Arr encP 2 m a n p)(h:∀m',Keep m m'->Q (.tuple #[.agg #[.int .i64 (pm.dJ ⟨num,p,at_,done⟩).1.1,.int .i64 (pm.dJ ⟨num,p,at_,done⟩).1.2],.bool (pm.dJ ⟨num,p,at_,done⟩).2]) m') :
  ah cx lW [.agg #[.int .i64 num,.slice a n c,.int .i64 at_,.int .i64 done]] m Q:=by
 apply EP;unfold Ci dN;dsimp only;have k0:Keep m (bump m 2):=(Keep.refl hw).bump;have hl:=ha.1;refine Na k0.wf (ha.keep hw k0) fun m1 k1=>⟨_,rfl,?_⟩
 have k:=k0.trans k1;subst hl;refine dM (fun h1=>?_) (fun h1=>?_)
 .rw[eF];exact dw h k (by simp[pm.dJ,h1])
 refine cJ (fun h2=>?_) (fun h2=>?_)
 .exact dw h k (by simp[pm.dJ,h1,h2])
 .have g:=h1;unfold pm.oB at g;simp only[Bool.and_eq_true,Bool.not_eq_true']at g;obtain⟨_,_,g3,g4,_⟩:=g;have g3:=dS.1 g3;have g4:=dS.1 g4;have g6:=dX.1 h2;simp only[aQ]at g4 g6;obtain⟨i,rfl⟩:∃i:Nat,at_=(i:Int):=⟨at_.toNat,by omega⟩
  have hlt:i<p.length:=by omega
  have hx:=H1 (j:=⟨num,p,(i:Int),done⟩) rfl hlt;refine ha.open hx fun b o hc=>?_
  refine⟨_,yP k hw (hc 0 _ rfl),_,yP k hw (hc 1 _ rfl),?_⟩;exact dw h k (by simp[pm.dJ,h1,h2])
theorem H2{num at_ done x:Int}{a:Option Addr}{n c:Nat}{p:List pm.Step}(hw:Wf m)(ha:Arr encP 2 m a n p)
  (h:∀m',Keep m m'->Q (.tuple #[M8 (pm.eV ⟨num,p,at_,done⟩ x).1 a n c,.int .i64 (pm.eV ⟨num,p,at_,done⟩ x).2]) m') :
  ah cx uD [.agg #[.int .i64 num,.slice a n c,.int .i64 at_,.int .i64 done],.int .i64 x] m Q:=by
 apply GE;unfold Ea;have k0:Keep m (bump m 2):=(Keep.refl hw).bump;refine tM k0.wf (ha.keep hw k0) fun m1 k1=>⟨_,_,_,rfl,?_⟩
 have k:=(k0.trans k1).bump (n:=1);refine dM (fun h1=>?_) (fun h1=>?_)
 .exact dw h k (by simp[pm.eV,h1])
 .exact dw h k (by simp[pm.eV,h1])
theorem MZ{num at_ done:Int}{a:Option Addr}{n c:Nat}{p:List pm.Step}(hw:Wf m)(ha:Arr encP 2 m a n p)
  (h:∀m',Keep m m'->Q (.tuple #[M8 (pm.eJ ⟨num,p,at_,done⟩).1 a n c,.bool (pm.eJ ⟨num,p,at_,done⟩).2]) m') :
  ah cx wY [.agg #[.int .i64 num,.slice a n c,.int .i64 at_,.int .i64 done]] m Q:=by
 apply EQ;unfold Cj dN;dsimp only;have k0:Keep m (bump m 2):=(Keep.refl hw).bump;refine tM k0.wf (ha.keep hw k0) fun m1 k1=>⟨_,_,_,rfl,?_⟩
 have k:=(k0.trans k1).bump (n:=1);refine dM (fun h1=>?_) (fun h1=>?_)
 .rw[eF];exact dw h k (by simp[pm.eJ,h1])
 refine cJ (fun h2=>?_) (fun h2=>?_)
 .exact dw h k (by simp[pm.eJ,h1,h2])
 .exact dw h k (by simp[pm.eJ,h1,h2])
theorem OM{num:Int}{a:Option Addr}{n c:Nat}{p:List pm.Step}(hw:Wf m)(ha:Arr encP 2 m a n p)(hg:pm.pGood p=true)
  (h:∀m' a' c',Keep m m'->Arr encP 2 m' a' n (pm.pS num p).1.prog∨(pm.pS num p).2=false->(∀b∈blk a',m.nx<=b)->Q (.tuple #[M8 (pm.pS num p).1 (bif (pm.pS num p).2 then a' else none) (bif (pm.pS num p).2 then n else 0) (bif (pm.pS num p).2 then c' else 0),.bool (pm.pS num p).2]) m') :
  ah cx yG [.int .i64 num,.slice a n c] m Q:=by
 apply GF;unfold Eb dN;dsimp only;have k0:Keep m (bump m 1):=(Keep.refl hw).bump;refine AM k0.wf (ha.keep hw k0) fun m1 k1=>⟨_,rfl,?_⟩
 have k:=k0.trans k1;have hl:=ha.1;refine dM (fun h1=>?_) (fun h1=>?_)
 .rw[hg]at h1;cases h1
 refine cJ (fun h2=>?_) (fun h2=>?_)
 .have:=h m1 none 0 k (.inr (by simp[pm.pS,h1,h2])) (fun b hb=>by cases hb);simpa [pm.pS,h1,h2]using this
 .rw[cP];have k2:Keep m (newO m1 (row [] fV false)):=k.newO;have hb:(newO m1 (row [] fV false)).hp.get m1.nx=some (row [] fV false):=by rw[kw,if_pos rfl]
  generalize newO m1 (row [] fV false)=m2 at k2 hb;have ha2:=ha.keep hw k2;have hlen:=D9 hg;have hap:=sd (cx:=cx) (t:=vh) (e:=fV) (s:=2) (m:=m2) (n:=0) (k:=n) (c:=0) (ck:=c) (a:=some ⟨m1.nx,0,none⟩) (v:=a) (old:=[]) (new:=p.flatMap encP) (by kernel_rfl)
   (by unfold giveUp;simp only[hb,row]) rfl (by simp) (ha2.first tj (by omega)) (by rw[dk tj,hl]) (by
    rw[List.all_eq_true];intro v hv;obtain⟨x,_,hx⟩:=List.mem_flatMap.1 hv;simp[encP]at hx;rcases hx with rfl|rfl<;>rfl) (by omega) (by omega)
  rw[List.nil_append,Nat.zero_add]at hap;refine⟨_,_,_,_,hap,?_⟩;have k3:Keep m (newO m2 (row (p.flatMap encP) fV true)):=k2.newO;have hR:Row (newO m2 (row (p.flatMap encP) fV true)) m2.nx (p.flatMap encP) fV true:=Row.newO;have hA:=Arr.of_row tj hR;rw[hl]at hA;have e1:pm.pS num p=(⟨num,p,0,0⟩,true):=by simp[pm.pS,h1,h2]
  have:=h _ (some ⟨m2.nx,0,none⟩) n k3 (.inl (by rw[e1];exact hA)) (fun b hb=>by simp[blk]at hb;subst hb;exact k2.nx);rw[e1]at this;exact this
end
end Go.Proofs.YthpnifigjfplbaaGreat.vc
