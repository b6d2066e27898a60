import Derived.Test.YtiehbnmpaeedpaaGreatQK31
import Derived.Test.YtiehbnmpaeedpaaGreatQK01
import Derived.Test.YtiehbnmpaeedpaaGreatQK19
import Derived.Test.YtiehbnmpaeedpaaGreatQK21
import Derived.Test.YtiehbnmpaeedpaaGreatQK29
import Derived.KernelRfl
import Derived.Test.YtiehbnmpaeedpaaGreatQK24
import Derived.Test.YtiehbnmpaeedpaaGreatQK22
set_option linter.unusedVariables false
set_option linter.unusedSimpArgs false
namespace Go.Proofs.YtiehbnmpaeedpaaGreat.vc
open Go Go.AX
noncomputable section
def fQ(x:pl.E):List Value:=[.int .i64 x.1,.int .i64 x.2.1,.bool x.2.2]
def A3:List Value->Option (List pl.E)
 | []=>some []
 | .int .i64 a::.int .i64 b::.bool c::r=>match A3 r with
  | some l=>some ((a,b,c)::l)
  | none=>none
 | _=>none
theorem BX:∀l:List pl.E,A3 (l.flatMap fQ)=some l
 | []=>rfl
 | (a,b,c)::l=>by
  show (match A3 (l.flatMap fQ)with|some l=>some ((a,b,c)::l)|none=>none)=_;rw[BX l]
theorem LX{l:List Value}{xs:List pl.E}(h:A3 l=some xs):l=xs.flatMap fQ:=by
 fun_induction A3 l generalizing xs with
 | case1=>cases h;rfl
 | case2 a b c r l hl ih=>
  cases h;rw[ih hl];rfl
 | case3=>cases h
 | case4=>cases h
def yO:List Value->Mem->Option (Value×Mem):=oW 3 (zK fQ A3 pl.srt) [.func (.func fT) #[] #[]]
def ve:List Value->Mem->Option (Value×Mem):=oW 1 zJ []
def Ao:List Value->Mem->Option (Value×Mem):=oQ vc0.cx cJ eJ 11 104
def tY:List (Nat×(List Value->Mem->Option (Value×Mem))):=[(kJ,qV),(gq,ve),(fp,yO),(fF,Ao)]
def ov:Tr (List Value->Mem->Option (Value×Mem)):=tY.foldr (fun x t=>t.put x.1 x.2) .nil
def cx:Cx:=Cx.of Tryz.prog ov
theorem GP:CxOk Tryz.prog cx:=CxOk.of _ _
theorem Ks:cx.ov.get kJ=some qV:=by
 show (tY.foldr (fun x t=>Tr.put t x.1 x.2) .nil).get _=_;simp only[tY,List.foldr_cons,List.foldr_nil,Tr.get_put];rfl
theorem FB:cx.ov.get gq=some ve:=by
 show (tY.foldr (fun x t=>Tr.put t x.1 x.2) .nil).get _=_;simp only[tY,List.foldr_cons,List.foldr_nil,Tr.get_put];rfl
theorem IB:cx.ov.get fp=some yO:=by
 show (tY.foldr (fun x t=>Tr.put t x.1 x.2) .nil).get _=_;simp only[tY,List.foldr_cons,List.foldr_nil,Tr.get_put];rfl
theorem Fx:cx.ov.get fF=some Ao:=by
 show (tY.foldr (fun x t=>Tr.put t x.1 x.2) .nil).get _=_;simp only[tY,List.foldr_cons,List.foldr_nil,Tr.get_put];rfl
theorem FA:cx.ov=tY.foldr (fun x t=>Tr.put t x.1 x.2) .nil:=rfl
theorem LY:Df yO:=Fb
theorem LZ:Dg yO:=Fc
theorem Kt:Df ve:=Fb
theorem Ku:Dg ve:=Fc
theorem Kv:Df Ao:=Li
theorem Kw:Dg Ao:=Lj
theorem eF:mh cx:=HC FA fun x hx=>by
 simp only[tY,List.mem_cons,List.not_mem_nil,or_false]at hx;rcases hx with h|h|h|h<;>rw[h]
 .exact Jx
 .exact Kt
 .exact LY
 .exact Kv
theorem ez:lV cx:=HD FA fun x hx=>by
 simp only[tY,List.mem_cons,List.not_mem_nil,or_false]at hx;rcases hx with h|h|h|h<;>rw[h]
 .exact Jy
 .exact Ku
 .exact LZ
 .exact Kw
end
end Go.Proofs.YtiehbnmpaeedpaaGreat.vc
namespace Go.Proofs.YtiehbnmpaeedpaaGreat.vc
open Go Go.AX
set_option maxRecDepth 100000
noncomputable section
def xW(a:Int)(m:Mem)(Q:Value->Mem->Prop):Prop:=
 splitB (leI 0 a) (Q (.bool (leI a 4611686018427387904)) m) (Q (.bool false) m)
theorem A0{a:Int}{m:Mem}{Q:Value->Mem->Prop}(h:xW a m Q):ah cx iV [.int .i64 a] m Q:=
 ah.of (fn:=Tryz.f82) (LS:=[]) (ann:=[]) eF ez (by kernel_rfl) (by kernel_rfl) (Eq.mp (by kernel_rfl) h)
def xX(d:Int)(m:Mem)(Q:Value->Mem->Prop):Prop:=
 ah cx iV [.int .i64 d] m fun c b=>∃a,c=(.bool a)/\splitB (!a) (Q (.tuple #[.int .i64 0,.bool false]) b) (Q (.tuple #[.int .i64 d,.bool true]) b)
theorem A1{d:Int}{m:Mem}{Q:Value->Mem->Prop}(h:xX d m Q):ah cx qe [.int .i64 d] m Q:=
 ah.of (fn:=Tryz.f120) (LS:=[]) (ann:=[]) eF ez (by kernel_rfl) (by kernel_rfl) (Eq.mp (by kernel_rfl) h)
def BS(a c b:Int)(m:Mem)(Q:Value->Mem->Prop):Prop:=
 splitB (leI c a) (Q (.bool (leI a b)) m) (Q (.bool false) m)
theorem D5{a c b:Int}{m:Mem}{Q:Value->Mem->Prop}(h:BS a c b m Q):ah cx oA [.int .i64 a,.int .i64 c,.int .i64 b] m Q:=
 ah.of (fn:=Tryz.f121) (LS:=[]) (ann:=[]) eF ez (by kernel_rfl) (by kernel_rfl) (Eq.mp (by kernel_rfl) h)
def Ae(l n:Int)(m:Mem)(Q:Value->Mem->Prop):Prop:=
 eS (fun(o:Mem)=>ah cx qe [.int .i64 (aJ .i64 l n)] o fun k i=>∃f a,k=(.tuple #[.int .i64 f,.bool a])/\Q (.tuple #[.int .i64 f,.bool a]) i) fun g=>ah cx iV [.int .i64 l] m fun j b=>∃d,j=(.bool d)/\splitB (!d) (Q (.tuple #[.int .i64 0,.bool false]) b) (ah cx iV [.int .i64 n] b fun p c=>∃e,p=(.bool e)/\splitB (!e) (Q (.tuple #[.int .i64 0,.bool false]) c) (g c))
theorem Cm{l n:Int}{m:Mem}{Q:Value->Mem->Prop}(h:Ae l n m Q):ah cx uW [.int .i64 l,.int .i64 n] m Q:=
 ah.of (fn:=Tryz.f83) (LS:=[]) (ann:=[none,some ⟨[0,1],[],[],[],[],0⟩]) eF ez (by kernel_rfl) (by kernel_rfl) (Eq.mp (by kernel_rfl) h)
def wG(n o a:Int)(m:Mem)(Q:Value->Mem->Prop):Prop:=
 eS (fun(p:Mem)=>a≠0/\Q (.tuple #[.int .i64 (rJ .i64 (jT .i64 n o) a),.bool true]) p) fun i=>ah cx oA [.int .i64 n,.int .i64 0,.int .i64 2147483648] m fun k d=>∃c,k=(.bool c)/\splitB (!c) (Q (.tuple #[.int .i64 0,.bool false]) d) (ah cx oA [.int .i64 a,.int .i64 1,.int .i64 2147483648] d fun j f=>∃b,j=(.bool b)/\splitB (!b) (Q (.tuple #[.int .i64 0,.bool false]) f) (ah cx oA [.int .i64 o,.int .i64 0,.int .i64 a] f fun l g=>∃e,l=(.bool e)/\splitB (!e) (Q (.tuple #[.int .i64 0,.bool false]) g) (i g)))
theorem Af{n o a:Int}{m:Mem}{Q:Value->Mem->Prop}(h:wG n o a m Q):ah cx si [.int .i64 n,.int .i64 o,.int .i64 a] m Q:=
 ah.of (fn:=Tryz.f85) (LS:=[]) (ann:=[none,some ⟨[0,1,2],[],[],[],[],0⟩]) eF ez (by kernel_rfl) (by kernel_rfl) (Eq.mp (by kernel_rfl) h)
def BU(l a b:Int)(m:Mem)(Q:Value->Mem->Prop):Prop:=
 eS (fun(n:Mem)=>splitB (dJ l a) (Q (.tuple #[.int .i64 a,.bool true]) n) (b≠0/\(ah cx qe [.int .i64 (aJ .i64 a (jT .i64 (aJ .i64 (rJ .i64 (dY .i64 l a) b) 1) b))] n fun t r=>∃c k,t=(.tuple #[.int .i64 c,.bool k])/\Q (.tuple #[.int .i64 c,.bool k]) r))) fun o=>ah cx iV [.int .i64 l] m fun q g=>∃e,q=(.bool e)/\splitB (!e) (Q (.tuple #[.int .i64 0,.bool false]) g) (ah cx iV [.int .i64 a] g fun p j=>∃d,p=(.bool d)/\splitB (!d) (Q (.tuple #[.int .i64 0,.bool false]) j) (ah cx oA [.int .i64 b,.int .i64 1,.int .i64 2147483648] j fun s f=>∃i,s=(.bool i)/\splitB (!i) (Q (.tuple #[.int .i64 0,.bool false]) f) (o f)))
theorem D6{l a b:Int}{m:Mem}{Q:Value->Mem->Prop}(h:BU l a b m Q):ah cx wH [.int .i64 l,.int .i64 a,.int .i64 b] m Q:=
 ah.of (fn:=Tryz.f93) (LS:=[]) (ann:=[none,some ⟨[0,1,2],[],[],[],[],0⟩]) eF ez (by kernel_rfl) (by kernel_rfl) (Eq.mp (by kernel_rfl) h)
def Ag(b a:Int)(m:Mem)(Q:Value->Mem->Prop):Prop:=
 splitB (leI 1 a) (splitB (leI a 2147483648) (splitB (leI 1 b) (Q (.bool (leI b a)) m) (Q (.bool false) m)) (Q (.bool false) m)) (Q (.bool false) m)
theorem Cn{b a:Int}{m:Mem}{Q:Value->Mem->Prop}(h:Ag b a m Q):ah cx ra [.int .i64 b,.int .i64 a] m Q:=
 ah.of (fn:=Tryz.f70) (LS:=[]) (ann:=[]) eF ez (by kernel_rfl) (by kernel_rfl) (Eq.mp (by kernel_rfl) h)
def BV(c d:Int)(m:Mem)(Q:Value->Mem->Prop):Prop:=
 ah cx ra [.int .i64 c,.int .i64 d] (bump m 1) fun e b=>∃a,e=(.bool a)/\splitB (!a) (Q (.tuple #[.agg #[.int .i64 0,.int .i64 0,.int .i64 0,.int .i64 0,.int .i64 0],.int .i64 1]) b) (Q (.tuple #[.agg #[.int .i64 c,.int .i64 d,.int .i64 0,.int .i64 0,.int .i64 0],.int .i64 0]) b)
theorem D7{c d:Int}{m:Mem}{Q:Value->Mem->Prop}(h:BV c d m Q):ah cx wI [.int .i64 c,.int .i64 d] m Q:=
 ah.of (fn:=Tryz.f33) (LS:=[4]) (ann:=[]) eF ez (by kernel_rfl) (by kernel_rfl) (Eq.mp (by kernel_rfl) h)
def Ah(g k d l e:Int)(m:Mem)(Q:Value->Mem->Prop):Prop:=
 ah cx ra [.int .i64 g,.int .i64 k] (bump m 1) fun i b=>∃c,i=(.bool c)/\splitB c (splitB (leI 0 d) (splitB (leI d g) (ah cx iV [.int .i64 l] b fun j a=>∃f,j=(.bool f)/\splitB f (splitB (leI 0 e) (splitB (leI e 2) (splitB (eX e 1) (Q (.bool true) a) (Q (.bool (dJ 0 d)) a)) (Q (.bool false) a)) (Q (.bool false) a)) (Q (.bool false) a)) (Q (.bool false) b)) (Q (.bool false) b)) (Q (.bool false) b)
theorem Co{g k d l e:Int}{m:Mem}{Q:Value->Mem->Prop}(h:Ah g k d l e m Q):ah cx lJ [.agg #[.int .i64 g,.int .i64 k,.int .i64 d,.int .i64 l,.int .i64 e]] m Q:=
 ah.of (fn:=Tryz.f81) (LS:=[1]) (ann:=[]) eF ez (by kernel_rfl) (by kernel_rfl) (Eq.mp (by kernel_rfl) h)
def xY(c b a d e:Int)(m:Mem)(Q:Value->Mem->Prop):Prop:=
 splitB (dO a 0) (Q (.agg #[.int .i64 c,.int .i64 b,.int .i64 a,.int .i64 d,.int .i64 2]) (bump m 2)) (Q (.agg #[.int .i64 c,.int .i64 b,.int .i64 a,.int .i64 d,.int .i64 1]) (bump m 2))
theorem A2{c b a d e:Int}{m:Mem}{Q:Value->Mem->Prop}(h:xY c b a d e m Q):ah cx lT [.agg #[.int .i64 c,.int .i64 b,.int .i64 a,.int .i64 d,.int .i64 e]] m Q:=
 ah.of (fn:=Tryz.f84) (LS:=[1,2]) (ann:=[]) eF ez (by kernel_rfl) (by kernel_rfl) (Eq.mp (by kernel_rfl) h)
def Al(b a e c d g:Int)(m:Mem)(Q:Value->Mem->Prop):Prop:=
 eS (fun(P:Bool)(f:Mem)=>splitB P (Q (.tuple #[.agg #[.int .i64 b,.int .i64 a,.int .i64 e,.int .i64 c,.int .i64 d],.int .i64 1]) f) (splitB (eX d 0) (Q (.tuple #[.agg #[.int .i64 b,.int .i64 a,.int .i64 e,.int .i64 c,.int .i64 d],.int .i64 5]) f) (splitB (leI c g) (ah cx uW [.int .i64 g,.int .i64 a] f fun D q=>∃B n,D=(.tuple #[.int .i64 B,.bool n])/\splitB (!n) (Q (.tuple #[.agg #[.int .i64 b,.int .i64 a,.int .i64 e,.int .i64 c,.int .i64 d],.int .i64 6]) q) (ah cx lT [.agg #[.int .i64 b,.int .i64 a,.int .i64 b,.int .i64 B,.int .i64 d]] q fun E I=>∃v r s y x,E=(.agg #[.int .i64 v,.int .i64 r,.int .i64 s,.int .i64 y,.int .i64 x])/\Q (.tuple #[.agg #[.int .i64 v,.int .i64 r,.int .i64 s,.int .i64 y,.int .i64 x],.int .i64 0]) I)) (eS (fun(C:Int)(H:Int)(U:Int)(S:Int)(K:Int)(T:Mem)=>ah cx lT [.agg #[.int .i64 C,.int .i64 H,.int .i64 U,.int .i64 S,.int .i64 K]] T fun F R=>∃u z l j p,F=(.agg #[.int .i64 u,.int .i64 z,.int .i64 l,.int .i64 j,.int .i64 p])/\Q (.tuple #[.agg #[.int .i64 u,.int .i64 z,.int .i64 l,.int .i64 j,.int .i64 p],.int .i64 0]) R) fun A=>splitB (dJ (jT .i64 (jL (dY .i64 c g) a) b) (jT .i64 e a)) (ah cx si [.int .i64 (jL (dY .i64 c g) a),.int .i64 b,.int .i64 a] f fun L O=>∃i N,L=(.tuple #[.int .i64 i,.bool N])/\A b a i c d O) (A b a e c d f))))) fun o=>ah cx lJ [.agg #[.int .i64 b,.int .i64 a,.int .i64 e,.int .i64 c,.int .i64 d]] (bump m 2) fun V k=>∃w,V=(.bool w)/\splitB (!w) (o true k) (ah cx iV [.int .i64 g] k fun G M=>∃t,G=(.bool t)/\o (!t) M)
theorem Cs{b a e c d g:Int}{m:Mem}{Q:Value->Mem->Prop}(h:Al b a e c d g m Q):ah cx uZ [.agg #[.int .i64 b,.int .i64 a,.int .i64 e,.int .i64 c,.int .i64 d],.int .i64 g] m Q:=
 ah.of (fn:=Tryz.f41) (LS:=[2,4]) (ann:=[none,none,some ⟨[1],[(9,.bool)],[(2,0,0),(4,1,0)],[0,1],[],2⟩,none,none,none,none,none,none,none,none,none,none,none,none,some ⟨[],[(76,.int .i64),(77,.int .i64),(78,.int .i64),(79,.int .i64),(80,.int .i64)],[(2,0,0),(4,1,0)],[1],[(0,[76,77,78,79,80])],4⟩]) eF ez (by kernel_rfl) (by kernel_rfl) (Eq.mp (by kernel_rfl) h)
def BW(f e a g b o:Int)(m:Mem)(Q:Value->Mem->Prop):Prop:=
 eS (fun(t:Bool)(i:Mem)=>splitB t (Q (.tuple #[.agg #[.int .i64 f,.int .i64 e,.int .i64 a,.int .i64 g,.int .i64 b],.int .i64 1]) i) (splitB (eX b 1) (Q (.tuple #[.agg #[.int .i64 f,.int .i64 e,.int .i64 a,.int .i64 g,.int .i64 b],.int .i64 4]) i) (ah cx lT [.agg #[.int .i64 f,.int .i64 e,.int .i64 (dY .i64 a o),.int .i64 g,.int .i64 b]] i fun r s=>∃q l p k j,r=(.agg #[.int .i64 q,.int .i64 l,.int .i64 p,.int .i64 k,.int .i64 j])/\Q (.tuple #[.agg #[.int .i64 q,.int .i64 l,.int .i64 p,.int .i64 k,.int .i64 j],.int .i64 0]) s))) fun c=>ah cx lJ [.agg #[.int .i64 f,.int .i64 e,.int .i64 a,.int .i64 g,.int .i64 b]] (bump m 2) fun u d=>∃n,u=(.bool n)/\splitB (!n) (c true d) (splitB (dJ o 1) (c true d) (c (dJ a o) d))
theorem D8{f e a g b o:Int}{m:Mem}{Q:Value->Mem->Prop}(h:BW f e a g b o m Q):ah cx wJ [.agg #[.int .i64 f,.int .i64 e,.int .i64 a,.int .i64 g,.int .i64 b],.int .i64 o] m Q:=
 ah.of (fn:=Tryz.f86) (LS:=[2,4]) (ann:=[none,none,some ⟨[1],[(6,.bool)],[(2,0,0),(4,1,0)],[0,1],[],2⟩]) eF ez (by kernel_rfl) (by kernel_rfl) (Eq.mp (by kernel_rfl) h)
def Ai(b a e c f:Int)(m:Mem)(Q:Value->Mem->Prop):Prop:=
 ah cx lJ [.agg #[.int .i64 b,.int .i64 a,.int .i64 e,.int .i64 c,.int .i64 f]] (bump m 2) fun i d=>∃g,i=(.bool g)/\splitB (!g) (Q (.tuple #[.agg #[.int .i64 b,.int .i64 a,.int .i64 e,.int .i64 c,.int .i64 f],.int .i64 1]) d) (splitB (dO f 0) (Q (.tuple #[.agg #[.int .i64 b,.int .i64 a,.int .i64 e,.int .i64 c,.int .i64 f],.int .i64 4]) d) (Q (.tuple #[.agg #[.int .i64 b,.int .i64 a,.int .i64 e,.int .i64 c,.int .i64 0],.int .i64 0]) d))
theorem Cp{b a e c f:Int}{m:Mem}{Q:Value->Mem->Prop}(h:Ai b a e c f m Q):ah cx uX [.agg #[.int .i64 b,.int .i64 a,.int .i64 e,.int .i64 c,.int .i64 f]] m Q:=
 ah.of (fn:=Tryz.f92) (LS:=[1,2]) (ann:=[]) eF ez (by kernel_rfl) (by kernel_rfl) (Eq.mp (by kernel_rfl) h)
def Aj(b a e c f:Int)(m:Mem)(Q:Value->Mem->Prop):Prop:=
 ah cx lJ [.agg #[.int .i64 b,.int .i64 a,.int .i64 e,.int .i64 c,.int .i64 f]] (bump m 2) fun i d=>∃g,i=(.bool g)/\splitB (!g) (Q (.tuple #[.agg #[.int .i64 b,.int .i64 a,.int .i64 e,.int .i64 c,.int .i64 f],.int .i64 1]) d) (splitB (eX f 1) (Q (.tuple #[.agg #[.int .i64 b,.int .i64 a,.int .i64 e,.int .i64 c,.int .i64 f],.int .i64 4]) d) (Q (.tuple #[.agg #[.int .i64 b,.int .i64 a,.int .i64 e,.int .i64 c,.int .i64 2],.int .i64 0]) d))
theorem Cq{b a e c f:Int}{m:Mem}{Q:Value->Mem->Prop}(h:Aj b a e c f m Q):ah cx uY [.agg #[.int .i64 b,.int .i64 a,.int .i64 e,.int .i64 c,.int .i64 f]] m Q:=
 ah.of (fn:=Tryz.f95) (LS:=[1,2]) (ann:=[]) eF ez (by kernel_rfl) (by kernel_rfl) (Eq.mp (by kernel_rfl) h)
def Ak(c b p d a x:Int)(m:Mem)(Q:Value->Mem->Prop):Prop:=
 eS (fun(v:Bool)(q:Mem)=>splitB v (Q (.tuple #[.agg #[.int .i64 c,.int .i64 b,.int .i64 p,.int .i64 d,.int .i64 a],.bool false]) q) (ah cx wH [.int .i64 x,.int .i64 d,.int .i64 b] q fun w n=>∃s j,w=(.tuple #[.int .i64 s,.bool j])/\splitB (!j) (Q (.tuple #[.agg #[.int .i64 c,.int .i64 b,.int .i64 p,.int .i64 d,.int .i64 a],.bool false]) n) (ah cx lT [.agg #[.int .i64 c,.int .i64 b,.int .i64 c,.int .i64 s,.int .i64 a]] n fun y u=>∃g i o l r,y=(.agg #[.int .i64 g,.int .i64 i,.int .i64 o,.int .i64 l,.int .i64 r])/\Q (.tuple #[.agg #[.int .i64 g,.int .i64 i,.int .i64 o,.int .i64 l,.int .i64 r],.bool true]) u))) fun e=>ah cx lJ [.agg #[.int .i64 c,.int .i64 b,.int .i64 p,.int .i64 d,.int .i64 a]] (bump m 2) fun t f=>∃k,t=(.bool k)/\splitB (!k) (e true f) (splitB (dO a 0) (e true f) (e (dJ x d) f))
theorem Cr{c b p d a x:Int}{m:Mem}{Q:Value->Mem->Prop}(h:Ak c b p d a x m Q):ah cx rc [.agg #[.int .i64 c,.int .i64 b,.int .i64 p,.int .i64 d,.int .i64 a],.int .i64 x] m Q:=
 ah.of (fn:=Tryz.f45) (LS:=[2,4]) (ann:=[none,none,some ⟨[1],[(21,.bool)],[(2,0,0),(4,1,0)],[0,1],[],2⟩]) eF ez (by kernel_rfl) (by kernel_rfl) (Eq.mp (by kernel_rfl) h)
def wK(b c:Int)(m:Mem)(Q:Value->Mem->Prop):Prop:=
 eS (fun(e:Bool)(d:Mem)=>splitB e (Q (.tuple #[.int .i64 0,.int .i64 0,.bool false]) d) (Q (.tuple #[.int .i64 (jT .i64 (dY .i64 b 1) c),.int .i64 (jT .i64 b c),.bool true]) d)) fun a=>splitB (dJ b 1) (a true m) (splitB (dJ 64 b) (a true m) (splitB (dJ c 1) (a true m) (a (dJ 1048576 c) m)))
theorem Am{b c:Int}{m:Mem}{Q:Value->Mem->Prop}(h:wK b c m Q):ah cx sr [.int .i64 b,.int .i64 c] m Q:=
 ah.of (fn:=Tryz.f123) (LS:=[]) (ann:=[none,none,some ⟨[0,1],[(20,.bool)],[],[],[],0⟩]) eF ez (by kernel_rfl) (by kernel_rfl) (Eq.mp (by kernel_rfl) h)
def vz(g j f i:Int)(m:Mem)(Q:Value->Mem->Prop):Prop:=
 ah cx sr [.int .i64 g,.int .i64 j] m fun d a=>∃e b c,d=(.tuple #[.int .i64 e,.int .i64 b,.bool c])/\splitB c (splitB (leI b f) (Q (.bool (leI b i)) a) (Q (.bool false) a)) (Q (.bool false) a)
theorem yL{g j f i:Int}{m:Mem}{Q:Value->Mem->Prop}(h:vz g j f i m Q):ah cx qN [.int .i64 g,.int .i64 j,.int .i64 f,.int .i64 i] m Q:=
 ah.of (fn:=Tryz.f94) (LS:=[]) (ann:=[]) eF ez (by kernel_rfl) (by kernel_rfl) (Eq.mp (by kernel_rfl) h)
def vC(b a:Int)(m:Mem)(Q:Value->Mem->Prop):Prop:=
 splitB (dJ b 0) (Q (.bool true) (bump m 1)) (splitB (dJ 8 b) (Q (.bool true) (bump m 1)) (splitB (dJ a 1) (Q (.bool true) (bump m 1)) (Q (.bool (dJ 2147483648 a)) (bump m 1))))
theorem yT{b a:Int}{m:Mem}{Q:Value->Mem->Prop}(h:vC b a m Q):ah cx qP [.agg #[.int .i64 b,.int .i64 a]] m Q:=
 ah.of (fn:=Tryz.f118) (LS:=[1]) (ann:=[]) eF ez (by kernel_rfl) (by kernel_rfl) (Eq.mp (by kernel_rfl) h)
def li(r:Option Addr)(o s:Nat)(q:Value)(m:Mem)(Q:Value->Mem->Prop):Prop:=
 ∃c:Int->Mem->Nat->Prop,(∃p:Nat,c 0 m p)/\∀a b l,c a b l->splitB (dJ a (aQ o)) ((0<=a/\a<((o:Nat):Int))/\(ec r fun d i=>∃k,rd b d (i+Int.toNat a*2)=some (.int .i64 k)/\∃j,rd b d (i+Int.toNat a*2+1)=some (.int .i64 j)/\(ox cx b q [.agg #[.int .i64 k,.int .i64 j]] fun n f=>∃g,n=(.bool g)/\splitB g (Q (.int .i64 a) f) (∃e:Nat,e<l/\c (aJ .i64 a 1) f e)))) (Q (.int .i64 (-1:Int)) b)
theorem oG{r:Option Addr}{o s:Nat}{q:Value}{m:Mem}{Q:Value->Mem->Prop}(h:li r o s q m Q):ah cx iN [.slice r o s,q] m Q:=
 ah.of (fn:=Tryz.f119) (LS:=[]) (ann:=[none,none,none,some ⟨[0,1,7],[(8,.int .i64)],[],[],[],0⟩]) eF ez (by kernel_rfl) (by kernel_rfl) (Eq.mp (by kernel_rfl) h)
def jS(d:Option Addr)(f g:Nat)(e:Value)(m:Mem)(Q:Value->Mem->Prop):Prop:=
 ah cx iN [.slice d f g,e] m fun c b=>∃a,c=(.int .i64 a)/\Q (.bool (leI 0 a)) b
theorem na{d:Option Addr}{f g:Nat}{e:Value}{m:Mem}{Q:Value->Mem->Prop}(h:jS d f g e m Q):ah cx gx [.slice d f g,e] m Q:=
 ah.of (fn:=Tryz.f80) (LS:=[]) (ann:=[]) eF ez (by kernel_rfl) (by kernel_rfl) (Eq.mp (by kernel_rfl) h)
def yf(e:Option Addr)(a f:Nat)(m:Mem)(Q:Value->Mem->Prop):Prop:=
 splitB (leI 1 (aQ a)) (splitB (leI (aQ a) 8) (ah cx gx [.slice e a f,.func (.func qP) #[] #[]] m fun d c=>∃b,d=(.bool b)/\Q (.bool (!b)) c) (Q (.bool false) m)) (Q (.bool false) m)
theorem A7{e:Option Addr}{a f:Nat}{m:Mem}{Q:Value->Mem->Prop}(h:yf e a f m Q):ah cx nk [.slice e a f] m Q:=
 ah.of (fn:=Tryz.f79) (LS:=[]) (ann:=[]) eF ez (by kernel_rfl) (by kernel_rfl) (Eq.mp (by kernel_rfl) h)
def vD(f i:Int)(g:Option Addr)(m:Mem)(Q:Value->Mem->Prop):Prop:=
 ec g fun b e=>∃c a d,rd (bump m 1) b e=some (.slice c a d)/\Q (.bool (dJ (aQ a) f)) (bump m 1)
theorem yV{f i:Int}{g:Option Addr}{m:Mem}{Q:Value->Mem->Prop}(h:vD f i g m Q):ah cx qO [.agg #[.int .i64 f,.int .i64 i],.pointer g] m Q:=
 ah.of (fn:=Tryz.f78) (LS:=[2]) (ann:=[]) eF ez (by kernel_rfl) (by kernel_rfl) (Eq.mp (by kernel_rfl) h)
def yg(d l:Option Addr)(j k n o:Nat)(m:Mem)(Q:Value->Mem->Prop):Prop:=
 dR (newO m (row [.slice l n o] kl false)) fun e=>ah cx nk [.slice d j k] e fun f c=>∃a,f=(.bool a)/\splitB a (ah cx gx [.slice d j k,.func (.func qO) #[] #[.pointer (some ⟨m.nx,0,none⟩)]] c fun i g=>∃b,i=(.bool b)/\Q (.bool (!b)) g) (Q (.bool false) c)
theorem A8{d l:Option Addr}{j k n o:Nat}{m:Mem}{Q:Value->Mem->Prop}(h:yg d l j k n o m Q):ah cx tF [.slice d j k,.slice l n o] m Q:=
 ah.of (fn:=Tryz.f36) (LS:=[]) (ann:=[]) eF ez (by kernel_rfl) (by kernel_rfl) (Eq.mp (by kernel_rfl) h)
def Au(o b g:Int)(l:Option Addr)(c p:Nat)(m:Mem)(Q:Value->Mem->Prop):Prop:=
 eS (fun(d:Mem)=>splitB (dO b (aQ c)) (Q (.bool (dO g 0)) d) ((0<=b/\b<((c:Nat):Int))/\(ec l fun i n=>∃e,rd (bump d 11) i (n+Int.toNat b*2+1)=some (.int .i64 e)/\Q (.bool (leI g e)) (bump d 11)))) fun j=>splitB (dJ o 1) (Q (.bool false) (bump m 1)) (ah cx nk [.slice l c p] (bump m 1) fun k a=>∃f,k=(.bool f)/\splitB (!f) (Q (.bool false) a) (splitB (dJ b 0) (Q (.bool false) a) (splitB (dJ (aQ c) b) (Q (.bool false) a) (splitB (dJ g 0) (Q (.bool false) a) (j a)))))
theorem Cy{o b g:Int}{l:Option Addr}{c p:Nat}{m:Mem}{Q:Value->Mem->Prop}(h:Au o b g l c p m Q):ah cx vp [.agg #[.int .i64 o,.slice l c p,.int .i64 b,.int .i64 g]] m Q:=
 ah.of (fn:=Tryz.f122) (LS:=[1]) (ann:=[none,some ⟨[],[],[(1,0,0)],[0],[],1⟩]) eF ez (by kernel_rfl) (by kernel_rfl) (Eq.mp (by kernel_rfl) h)
def B3(p:Int)(o:Option Addr)(q l:Nat)(m:Mem)(Q:Value->Mem->Prop):Prop:=
 eS (fun(n:Bool)(a:Mem)=>splitB n (Q (.tuple #[.agg #[.int .i64 0,.slice none 0 0,.int .i64 0,.int .i64 0],.bool false]) a) (dR (newO a (row [] gW false)) fun j=>∃b g d e,dm cx j [tG,tG] [.slice (some ⟨a.nx,0,none⟩) 0 0,.slice o q l]=some (.slice b g d,e)/\Q (.tuple #[.agg #[.int .i64 p,.slice b g d,.int .i64 0,.int .i64 0],.bool true]) e)) fun c=>ah cx nk [.slice o q l] (bump m 1) fun k f=>∃i,k=(.bool i)/\splitB (!i) (c true f) (c (dJ p 1) f)
theorem Ed{p:Int}{o:Option Addr}{q l:Nat}{m:Mem}{Q:Value->Mem->Prop}(h:B3 p o q l m Q):ah cx wN [.int .i64 p,.slice o q l] m Q:=
 ah.of (fn:=Tryz.f38) (LS:=[4]) (ann:=[none,none,some ⟨[0,1],[(12,.bool)],[(4,0,0)],[0],[],1⟩]) eF ez (by kernel_rfl) (by kernel_rfl) (Eq.mp (by kernel_rfl) h)
def Av(q a p:Int)(n:Option Addr)(g r:Nat)(m:Mem)(Q:Value->Mem->Prop):Prop:=
 eS (fun(l:Bool)(b:Mem)=>splitB l (Q (.tuple #[.agg #[.int .i64 0,.int .i64 0],.bool false]) b) ((0<=a/\a<((g:Nat):Int))/\(ec n fun c k=>∃i,rd b c (k+Int.toNat a*2)=some (.int .i64 i)/\∃e,rd b c (k+Int.toNat a*2+1)=some (.int .i64 e)/\Q (.tuple #[.agg #[.int .i64 i,.int .i64 e],.bool true]) b))) fun d=>ah cx vp [.agg #[.int .i64 q,.slice n g r,.int .i64 a,.int .i64 p]] (bump m 2) fun o f=>∃j,o=(.bool j)/\splitB (!j) (d true f) (d (dO a (aQ g)) f)
theorem Cz{q a p:Int}{n:Option Addr}{g r:Nat}{m:Mem}{Q:Value->Mem->Prop}(h:Av q a p n g r m Q):ah cx mV [.agg #[.int .i64 q,.slice n g r,.int .i64 a,.int .i64 p]] m Q:=
 ah.of (fn:=Tryz.f89) (LS:=[1,2]) (ann:=[none,none,some ⟨[],[(14,.bool)],[(1,0,0),(2,1,0)],[0,1],[],2⟩]) eF ez (by kernel_rfl) (by kernel_rfl) (Eq.mp (by kernel_rfl) h)
def B2(f e a l:Int)(c:Option Addr)(i j:Nat)(m:Mem)(Q:Value->Mem->Prop):Prop:=
 ah cx mV [.agg #[.int .i64 f,.slice c i j,.int .i64 e,.int .i64 a]] (bump m 2) fun k g=>∃n b d,k=(.tuple #[.agg #[.int .i64 n,.int .i64 b],.bool d])/\splitB (!d) (Q (.tuple #[.agg #[.int .i64 f,.slice c i j,.int .i64 e,.int .i64 a],.int .i64 0]) (bump g 1)) (Q (.tuple #[.agg #[.int .i64 f,.slice c i j,.int .i64 e,.int .i64 (aJ .i64 a (jL (Bm l 0) (dY .i64 b a)))],.int .i64 (jL (Bm l 0) (dY .i64 b a))]) (bump g 1))
theorem Ec{f e a l:Int}{c:Option Addr}{i j:Nat}{m:Mem}{Q:Value->Mem->Prop}(h:B2 f e a l c i j m Q):ah cx wO [.agg #[.int .i64 f,.slice c i j,.int .i64 e,.int .i64 a],.int .i64 l] m Q:=
 ah.of (fn:=Tryz.f87) (LS:=[2,4,6]) (ann:=[]) eF ez (by kernel_rfl) (by kernel_rfl) (Eq.mp (by kernel_rfl) h)
def Aw(j i d:Int)(f:Option Addr)(e l:Nat)(m:Mem)(Q:Value->Mem->Prop):Prop:=
 ah cx mV [.agg #[.int .i64 j,.slice f e l,.int .i64 i,.int .i64 d]] (bump m 2) fun o k=>∃p b g,o=(.tuple #[.agg #[.int .i64 p,.int .i64 b],.bool g])/\(eS (fun(n:Bool)(c:Mem)=>splitB n (Q (.tuple #[.agg #[.int .i64 j,.slice f e l,.int .i64 i,.int .i64 d],.bool false]) c) (Q (.tuple #[.agg #[.int .i64 j,.slice f e l,.int .i64 (aJ .i64 i 1),.int .i64 0],.bool true]) c)) fun a=>splitB (!g) (a true (bump k 1)) (a (eX d b) (bump k 1)))
theorem CB{j i d:Int}{f:Option Addr}{e l:Nat}{m:Mem}{Q:Value->Mem->Prop}(h:Aw j i d f e l m Q):ah cx vo [.agg #[.int .i64 j,.slice f e l,.int .i64 i,.int .i64 d]] m Q:=
 ah.of (fn:=Tryz.f91) (LS:=[1,2,4]) (ann:=[none,none,none,some ⟨[],[(19,.bool)],[(1,0,0),(2,1,0)],[0,1],[],4⟩]) eF ez (by kernel_rfl) (by kernel_rfl) (Eq.mp (by kernel_rfl) h)
def kr(a:Int)(m:Mem)(Q:Value->Mem->Prop):Prop:=
 Q (.bool (eX a a)) m
theorem mL{a:Int}{m:Mem}{Q:Value->Mem->Prop}(h:kr a m Q):ah cx gP [.int .i64 a] m Q:=
 ah.of (fn:=Tryz.f116) (LS:=[]) (ann:=[]) eF ez (by kernel_rfl) (by kernel_rfl) (Eq.mp (by kernel_rfl) h)
def jp(d e:Int)(m:Mem)(Q:Value->Mem->Prop):Prop:=
 ah cx gP [.int .i64 d] m fun i g=>∃c,i=(.bool c)/\(ah cx gP [.int .i64 e] g fun f a=>∃b,f=(.bool b)/\splitB c (splitB b (Q (.int .i64 0) a) (Q (.int .i64 (-1:Int)) a)) (splitB b (Q (.int .i64 1) a) (splitB (dJ d e) (Q (.int .i64 (-1:Int)) a) (splitB (dJ e d) (Q (.int .i64 1) a) (Q (.int .i64 0) a)))))
theorem lK{d e:Int}{m:Mem}{Q:Value->Mem->Prop}(h:jp d e m Q):ah cx iB [.int .i64 d,.int .i64 e] m Q:=
 ah.of (fn:=Tryz.f69) (LS:=[]) (ann:=[]) eF ez (by kernel_rfl) (by kernel_rfl) (Eq.mp (by kernel_rfl) h)
end
end Go.Proofs.YtiehbnmpaeedpaaGreat.vc
namespace Go.Proofs.YtiehbnmpaeedpaaGreat.vc
open Go Go.AX
@[reducible] def yK (s:pm.Srv):Value:=.agg #[.int .i64 s.q,.int .i64 s.p,.int .i64 s.bud,.int .i64 s.due,.int .i64 s.mode]
section
variable {m:Mem}{Q:Value->Mem->Prop}
theorem dW{r r':Value}{m m':Mem}(h:∀m',Keep m m'->Q r m')(k:Keep m m')(e:r=r'):Q r' m':=e▸h m' k
theorem nN{x:Int}(hw:Wf m)(h:∀m',Keep m m'->Q (.bool (pm.gZ x)) m'):ah cx iV [.int .i64 x] m Q:=by
 apply A0;unfold xW;refine bQ (fun h1=>?_) (fun h1=>?_)
 .exact dW h (Keep.refl hw) (by simp[pm.gZ,h1])
 .exact dW h (Keep.refl hw) (by simp[pm.gZ,h1])
theorem D4{x:Int}(hw:Wf m)(h:∀m',Keep m m'->Q (.tuple #[.int .i64 (pm.qb x).1,.bool (pm.qb x).2]) m'):ah cx qe [.int .i64 x] m Q:=by
 apply A1;unfold xX;refine nN hw fun m1 k1=>⟨_,rfl,?_⟩
 refine eV (fun h1=>?_) (fun h1=>?_)
 .exact dW h k1 (by simp[pm.qb,h1])
 .exact dW h k1 (by simp[pm.qb,h1])
theorem Ad{x a b:Int}(hw:Wf m)(h:∀m',Keep m m'->Q (.bool (pm.qp x a b)) m'):ah cx oA [.int .i64 x,.int .i64 a,.int .i64 b] m Q:=by
 apply D5;unfold BS;refine bQ (fun h1=>?_) (fun h1=>?_)
 .exact dW h (Keep.refl hw) (by simp[pm.qp,h1])
 .exact dW h (Keep.refl hw) (by simp[pm.qp,h1])
theorem LU{a b:Int}(hw:Wf m)(h:∀m',Keep m m'->Q (.tuple #[.int .i64 (pm.nF a b).1,.bool (pm.nF a b).2]) m'):ah cx uW [.int .i64 a,.int .i64 b] m Q:=by
 apply Cm;unfold Ae eS;dsimp only;refine nN hw fun m1 k1=>⟨_,rfl,?_⟩
 refine eV (fun h1=>?_) (fun h1=>?_)
 .exact dW h k1 (by simp[pm.nF,h1])
 refine nN k1.wf fun m2 k2=>⟨_,rfl,?_⟩
 refine eV (fun h2=>?_) (fun h2=>?_)
 .exact dW h (k1.trans k2) (by simp[pm.nF,h1,h2])
 refine D4 k2.wf fun m3 k3=>⟨_,_,rfl,?_⟩
 exact dW h ((k1.trans k2).trans k3) (by simp[pm.nF,h1,h2])
theorem Fy{x b:Int}(h:pm.qp x 1 b=true):x≠0:=by
 unfold pm.qp at h;simp only[Bool.and_eq_true,hY]at h;omega
theorem Is{a b c:Int}(hw:Wf m)(h:∀m',Keep m m'->Q (.tuple #[.int .i64 (pm.kT a b c).1,.bool (pm.kT a b c).2]) m'):ah cx si [.int .i64 a,.int .i64 b,.int .i64 c] m Q:=by
 apply Af;unfold wG eS;dsimp only;refine Ad hw fun m1 k1=>⟨_,rfl,?_⟩
 refine eV (fun h1=>?_) (fun h1=>?_)
 .exact dW h k1 (by simp[pm.kT,h1])
 refine Ad k1.wf fun m2 k2=>⟨_,rfl,?_⟩
 refine eV (fun h2=>?_) (fun h2=>?_)
 .exact dW h (k1.trans k2) (by simp[pm.kT,h1,h2])
 refine Ad k2.wf fun m3 k3=>⟨_,rfl,?_⟩
 refine eV (fun h3=>?_) (fun h3=>?_)
 .exact dW h ((k1.trans k2).trans k3) (by simp[pm.kT,h1,h2,h3])
 .exact⟨Fy h2,dW h ((k1.trans k2).trans k3) (by simp[pm.kT,h1,h2,h3])⟩
theorem MK{a b c:Int}(hw:Wf m)(h:∀m',Keep m m'->Q (.tuple #[.int .i64 (pm.nY a b c).1,.bool (pm.nY a b c).2]) m'):ah cx wH [.int .i64 a,.int .i64 b,.int .i64 c] m Q:=by
 apply D6;unfold BU eS;dsimp only;refine nN hw fun m1 k1=>⟨_,rfl,?_⟩
 refine eV (fun h1=>?_) (fun h1=>?_)
 .exact dW h k1 (by simp[pm.nY,h1])
 refine nN k1.wf fun m2 k2=>⟨_,rfl,?_⟩
 refine eV (fun h2=>?_) (fun h2=>?_)
 .exact dW h (k1.trans k2) (by simp[pm.nY,h1,h2])
 refine Ad k2.wf fun m3 k3=>⟨_,rfl,?_⟩
 have k:=(k1.trans k2).trans k3;refine eV (fun h3=>?_) (fun h3=>?_)
 .exact dW h k (by simp[pm.nY,h1,h2,h3])
 refine bQ (fun h4=>?_) (fun h4=>?_)
 .exact dW h k (by simp[pm.nY,h1,h2,h3,h4])
 refine⟨Fy h3,D4 k3.wf fun m4 k4=>⟨_,_,rfl,?_⟩⟩;exact dW h (k.trans k4) (by simp[pm.nY,h1,h2,h3,h4])
theorem Fz{q p:Int}(hw:Wf m)(h:∀m',Keep m m'->Q (.bool (pm.pair q p)) m'):ah cx ra [.int .i64 q,.int .i64 p] m Q:=by
 apply Cn;unfold Ag;refine bQ (fun h1=>bQ (fun h2=>bQ (fun h3=>?_) (fun h3=>?_)) (fun h2=>?_)) (fun h1=>?_)
 .exact dW h (Keep.refl hw) (by simp[pm.pair,h1,h2,h3])
 .exact dW h (Keep.refl hw) (by simp[pm.pair,h1,h2,h3])
 .exact dW h (Keep.refl hw) (by simp[pm.pair,h1,h2])
 .exact dW h (Keep.refl hw) (by simp[pm.pair,h1])
theorem LQ{q p:Int}(hw:Wf m)(h:∀m',Keep m m'->Q (.tuple #[yK (pm.gk q p).1,.int .i64 (pm.gk q p).2]) m'):ah cx wI [.int .i64 q,.int .i64 p] m Q:=by
 apply D7;unfold BV;refine Fz hw.bump fun m1 k1=>⟨_,rfl,?_⟩
 have k:=(Keep.refl hw).bump.trans k1;refine eV (fun h1=>?_) (fun h1=>?_)
 .exact dW h k (by simp[pm.gk,h1])
 .exact dW h k (by simp[pm.gk,h1])
theorem sq{q p b d mo:Int}(hw:Wf m)(h:∀m',Keep m m'->Q (.bool (pm.jB ⟨q,p,b,d,mo⟩)) m'):ah cx lJ [.agg #[.int .i64 q,.int .i64 p,.int .i64 b,.int .i64 d,.int .i64 mo]] m Q:=by
 apply Co;unfold Ah;refine Fz hw.bump fun m1 k1=>⟨_,rfl,?_⟩
 have k:=(Keep.refl hw).bump.trans k1;refine bQ (fun h1=>bQ (fun h2=>bQ (fun h3=>?_) (fun h3=>?_)) (fun h2=>?_)) (fun h1=>?_)
 .refine nN k1.wf fun m2 k2=>⟨_,rfl,?_⟩
  have k:=k.trans k2;refine bQ (fun h4=>bQ (fun h5=>bQ (fun h6=>bQ (fun h7=>?_) (fun h7=>?_)) (fun h6=>?_)) (fun h5=>?_)) (fun h4=>?_)
  .exact dW h k (by simp[pm.jB,h1,h2,h3,h4,h5,h6,h7])
  .exact dW h k (by simp[pm.jB,h1,h2,h3,h4,h5,h6,h7])
  .exact dW h k (by simp[pm.jB,h1,h2,h3,h4,h5,h6])
  .exact dW h k (by simp[pm.jB,h1,h2,h3,h4,h5])
  .exact dW h k (by simp[pm.jB,h1,h2,h3,h4])
 .exact dW h k (by simp[pm.jB,h1,h2,h3])
 .exact dW h k (by simp[pm.jB,h1,h2])
 .exact dW h k (by simp[pm.jB,h1])
theorem qz{q p b d mo:Int}(hw:Wf m)(h:∀m',Keep m m'->Q (yK (pm.gC ⟨q,p,b,d,mo⟩)) m'):ah cx lT [.agg #[.int .i64 q,.int .i64 p,.int .i64 b,.int .i64 d,.int .i64 mo]] m Q:=by
 apply A2;unfold xY;refine bQ (fun h1=>?_) (fun h1=>?_)
 .exact dW h (Keep.refl hw).bump (by simp[pm.gC,h1])
 .exact dW h (Keep.refl hw).bump (by simp[pm.gC,h1])
theorem LW{q p b d mo x:Int}(hw:Wf m)(h:∀m',Keep m m'->Q (.tuple #[yK (pm.fm ⟨q,p,b,d,mo⟩ x).1,.int .i64 (pm.fm ⟨q,p,b,d,mo⟩ x).2]) m'):ah cx wJ [.agg #[.int .i64 q,.int .i64 p,.int .i64 b,.int .i64 d,.int .i64 mo],.int .i64 x] m Q:=by
 apply D8;unfold BW eS;dsimp only;refine sq hw.bump fun m1 k1=>⟨_,rfl,?_⟩
 have k:=(Keep.refl hw).bump.trans k1;refine eV (fun h1=>?_) (fun h1=>?_)
 .rw[fZ];exact dW h k (by simp[pm.fm,h1])
 refine bQ (fun h2=>?_) (fun h2=>?_)
 .rw[fZ];exact dW h k (by simp[pm.fm,h1,h2])
 refine bQ (fun h3=>?_) (fun h3=>?_)
 .exact dW h k (by simp[pm.fm,h1,h2,h3])
 .refine rq (fun h4=>?_) (fun h4=>?_)
  .have h4:=jl.2 h4;exact dW h k (by simp[pm.fm,h1,h2,h3,h4])
  .have h4:=fP.2 h4;refine qz k1.wf fun m2 k2=>⟨_,_,_,_,_,rfl,?_⟩
   exact dW h (k.trans k2) (by simp[pm.fm,h1,h2,h3,h4])
theorem Km{q p b d mo:Int}(hw:Wf m)(h:∀m',Keep m m'->Q (.tuple #[yK (pm.ge ⟨q,p,b,d,mo⟩).1,.int .i64 (pm.ge ⟨q,p,b,d,mo⟩).2]) m'):ah cx uX [.agg #[.int .i64 q,.int .i64 p,.int .i64 b,.int .i64 d,.int .i64 mo]] m Q:=by
 apply Cp;unfold Ai;refine sq hw.bump fun m1 k1=>⟨_,rfl,?_⟩
 have k:=(Keep.refl hw).bump.trans k1;refine eV (fun h1=>?_) (fun h1=>bQ (fun h2=>?_) (fun h2=>?_))
 .exact dW h k (by simp[pm.ge,h1])
 .exact dW h k (by simp[pm.ge,h1,h2])
 .exact dW h k (by simp[pm.ge,h1,h2])
theorem Kn{q p b d mo:Int}(hw:Wf m)(h:∀m',Keep m m'->Q (.tuple #[yK (pm.fO ⟨q,p,b,d,mo⟩).1,.int .i64 (pm.fO ⟨q,p,b,d,mo⟩).2]) m'):ah cx uY [.agg #[.int .i64 q,.int .i64 p,.int .i64 b,.int .i64 d,.int .i64 mo]] m Q:=by
 apply Cq;unfold Aj;refine sq hw.bump fun m1 k1=>⟨_,rfl,?_⟩
 have k:=(Keep.refl hw).bump.trans k1;refine eV (fun h1=>?_) (fun h1=>bQ (fun h2=>?_) (fun h2=>?_))
 .exact dW h k (by simp[pm.fO,h1])
 .exact dW h k (by simp[pm.fO,h1,h2])
 .exact dW h k (by simp[pm.fO,h1,h2])
theorem Ko{q p b d mo x:Int}(hw:Wf m)(h:∀m',Keep m m'->Q (.tuple #[yK (pm.eK ⟨q,p,b,d,mo⟩ x).1,.bool (pm.eK ⟨q,p,b,d,mo⟩ x).2]) m'):ah cx rc [.agg #[.int .i64 q,.int .i64 p,.int .i64 b,.int .i64 d,.int .i64 mo],.int .i64 x] m Q:=by
 apply Cr;unfold Ak eS;dsimp only;refine sq hw.bump fun m1 k1=>⟨_,rfl,?_⟩
 have k:=(Keep.refl hw).bump.trans k1;refine eV (fun h1=>?_) (fun h1=>?_)
 .rw[fZ];exact dW h k (by simp[pm.eK,h1])
 refine bQ (fun h2=>?_) (fun h2=>?_)
 .rw[fZ];exact dW h k (by simp[pm.eK,h1,h2])
 refine bQ (fun h3=>?_) (fun h3=>?_)
 .exact dW h k (by simp[pm.eK,h1,h2,h3])
 refine MK k1.wf fun m2 k2=>⟨_,_,rfl,?_⟩
 have k:=k.trans k2;refine eV (fun h4=>?_) (fun h4=>?_)
 .exact dW h k (by simp[pm.eK,h1,h2,h3,h4])
 refine qz k2.wf fun m3 k3=>⟨_,_,_,_,_,rfl,?_⟩
 exact dW h (k.trans k3) (by simp[pm.eK,h1,h2,h3,h4])
theorem Kp{q p b d mo x:Int}(hw:Wf m)(h:∀m',Keep m m'->Q (.tuple #[yK (pm.gn ⟨q,p,b,d,mo⟩ x).1,.int .i64 (pm.gn ⟨q,p,b,d,mo⟩ x).2]) m'):ah cx uZ [.agg #[.int .i64 q,.int .i64 p,.int .i64 b,.int .i64 d,.int .i64 mo],.int .i64 x] m Q:=by
 apply Cs;unfold Al eS;dsimp only;refine sq hw.bump fun m1 k1=>⟨_,rfl,?_⟩
 have k:=(Keep.refl hw).bump.trans k1;refine eV (fun h1=>?_) (fun h1=>?_)
 .rw[fZ];exact dW h k (by simp[pm.gn,h1])
 refine nN k1.wf fun m2 k2=>⟨_,rfl,?_⟩
 have k:=k.trans k2;refine eV (fun h2=>?_) (fun h2=>?_)
 .exact dW h k (by simp[pm.gn,h1,h2])
 refine bQ (fun h3=>?_) (fun h3=>?_)
 .exact dW h k (by simp[pm.gn,h1,h2,h3])
 refine bQ (fun h4=>?_) (fun h4=>?_)
 .refine LU k2.wf fun m3 k3=>⟨_,_,rfl,?_⟩
  have k:=k.trans k3;refine eV (fun h5=>?_) (fun h5=>?_)
  .exact dW h k (by simp[pm.gn,h1,h2,h3,h4,h5])
  refine qz k3.wf fun m4 k4=>⟨_,_,_,_,_,rfl,?_⟩
  exact dW h (k.trans k4) (by simp[pm.gn,h1,h2,h3,h4,h5])
 .refine bQ (fun h5=>?_) (fun h5=>?_)
  .refine Is k2.wf fun m3 k3=>⟨_,_,rfl,?_⟩
   have k:=k.trans k3;refine qz k3.wf fun m4 k4=>⟨_,_,_,_,_,rfl,?_⟩
   exact dW h (k.trans k4) (by simp[pm.gn,h1,h2,h3,h4,h5])
  .refine qz k2.wf fun m4 k4=>⟨_,_,_,_,_,rfl,?_⟩
   exact dW h (k.trans k4) (by simp[pm.gn,h1,h2,h3,h4,h5])
theorem It{a b:Int}(hw:Wf m)(h:∀m',Keep m m'->Q (.tuple #[.int .i64 (pm.lN a b).1,.int .i64 (pm.lN a b).2.1,.bool (pm.lN a b).2.2]) m'):ah cx sr [.int .i64 a,.int .i64 b] m Q:=by
 apply Am;unfold wK eS;dsimp only;have k:=Keep.refl hw;refine bQ (fun h1=>?_) (fun h1=>bQ (fun h2=>?_) (fun h2=>bQ (fun h3=>?_) (fun h3=>bQ (fun h4=>?_) (fun h4=>?_))))
 .rw[fZ];exact dW h k (by simp[pm.lN,h1])
 .rw[fZ];exact dW h k (by simp[pm.lN,h1,h2])
 .rw[fZ];exact dW h k (by simp[pm.lN,h1,h2,h3])
 .exact dW h k (by simp[pm.lN,h1,h2,h3,h4])
 .exact dW h k (by simp[pm.lN,h1,h2,h3,h4])
theorem GO{a b c d:Int}(hw:Wf m)(h:∀m',Keep m m'->Q (.bool (pm.jW a b c d)) m'):ah cx qN [.int .i64 a,.int .i64 b,.int .i64 c,.int .i64 d] m Q:=by
 apply yL;unfold vz;refine It hw fun m1 k1=>⟨_,_,_,rfl,?_⟩
 refine bQ (fun h1=>bQ (fun h2=>?_) (fun h2=>?_)) (fun h1=>?_)
 .exact dW h k1 (by simp[pm.jW,h1,h2])
 .exact dW h k1 (by simp[pm.jW,h1,h2])
 .exact dW h k1 (by simp[pm.jW,h1])
theorem qA{x:Int}(h:Q (.bool false) m):ah cx gP [.int .i64 x] m Q:=by
 apply mL;unfold kr;rw[yn];exact h
theorem tz{x y:Int}(h:Q (.int .i64 (pl.c2 x y)) m):ah cx iB [.int .i64 x,.int .i64 y] m Q:=by
 apply lK;unfold jp;refine qA ⟨_,rfl,qA ⟨_,rfl,?_⟩⟩;unfold pl.c2 at h;rw[gT,gT];simp only[fG,jk,eL];exact⟨fun e=>by rw[if_pos e]at h;exact h,fun e=>⟨fun e2=>by rw[if_neg (by omega),if_pos e2]at h;exact h,fun e2=>by rw[if_neg (by omega),if_neg (by omega)]at h;exact h⟩⟩
end
end Go.Proofs.YtiehbnmpaeedpaaGreat.vc
namespace Go.Proofs.YtiehbnmpaeedpaaGreat.vc
open Go Go.AX
@[reducible] def KE (j:pm.Job)(a:Option Addr)(n c:Nat):Value:=.agg #[.int .i64 j.num,.slice a n c,.int .i64 j.at_,.int .i64 j.done]
theorem FF{α : Type}{f:α->Bool}{l:List α}:leI 0 (match l.findIdx? f with|some i=>(i:Int)|none=>-1)=l.any f:=by
 cases h:l.findIdx? f with
 | none=>
  rw[List.findIdx?_eq_none_iff]at h;have:l.any f=false:=List.any_eq_false.2 fun x hx=>by rw[h x hx];simp
  rw[this];simp[leI]
 | some i=>
  obtain⟨hi,h1,_⟩:=List.findIdx?_eq_some_iff_getElem.1 h;have:l.any f=true:=List.any_eq_true.2 ⟨_,List.getElem_mem hi,h1⟩;rw[this];simp[leI]
section
variable {m:Mem}{Q:Value->Mem->Prop}
theorem L2{v:Value}{f:pm.Step->Bool}{a:Option Addr}{n c:Nat}{l:List pm.Step}(hw:Wf m)(ha:Arr encP 2 m a n l)(hn:n<=4611686018427387904)
  (hf:∀x m1 (R:Value->Mem->Prop),Keep m m1->(∀m2,Keep m1 m2->R (.bool (f x)) m2)->ox cx m1 v [.agg #[.int .i64 x.1,.int .i64 x.2]] R)
  (h:∀m',Keep m m'->Q (.int .i64 (match l.findIdx? f with|some i=>(i:Int)|none=>-1)) m'):ah cx iN [.slice a n c,v] m Q:=by
 apply oG;unfold li;refine AF hn (fun k m1=>Keep m m1/\∀j x,j<k->l[j]? = some x->f x=false) ⟨Keep.refl hw,fun j x hj=>by omega⟩ ?_;rintro k m1 hk ⟨k1,hb⟩ I w hI;refine fu (fun hlt=>?_) (fun hge=>?_)
 .obtain⟨x,hx⟩:=ha.get hlt;refine ha.open hx fun b o hc=>?_
  have hc1:=hc.keep hw k1;refine⟨x.1,hc1 0 _ rfl,x.2,hc1 1 _ rfl,hf x m1 _ k1 fun m2 k2=>⟨_,rfl,bQ (fun h1=>?_) (fun h1=>?_)⟩⟩
  .refine dW h (k1.trans k2) ?_;obtain⟨hlk1,hlk2⟩:=(List.getElem?_eq_some_iff.1 hx);have:l.findIdx? f=some k:=List.findIdx?_eq_some_iff_getElem.2 ⟨hlk1,by rw[hlk2];exact h1,fun j hj=>by rw[hb j _ hj (List.getElem?_eq_getElem (by omega))];simp⟩;rw[this]
  .exact hI m2 hlt ⟨k1.trans k2,fun j y hj hy=>by
    by_cases e:j=k
    .subst e;rw[hx]at hy;cases hy;exact h1
    .exact hb j y (by omega) hy⟩
 .refine dW h k1 ?_;have:l.findIdx? f=none:=List.findIdx?_eq_none_iff.2 fun x hx=>by
   obtain⟨i,hi⟩:=List.getElem?_of_mem hx;have:=(List.getElem?_eq_some_iff.1 hi).1;exact hb i x (by have:=ha.1;omega) hi
  rw[this]
theorem FG{v:Value}{f:pm.Step->Bool}{a:Option Addr}{n c:Nat}{l:List pm.Step}(hw:Wf m)(ha:Arr encP 2 m a n l)(hn:n<=4611686018427387904)
  (hf:∀x m1 (R:Value->Mem->Prop),Keep m m1->(∀m2,Keep m1 m2->R (.bool (f x)) m2)->ox cx m1 v [.agg #[.int .i64 x.1,.int .i64 x.2]] R)
  (h:∀m',Keep m m'->Q (.bool (l.any f)) m'):ah cx gx [.slice a n c,v] m Q:=by
 apply na;unfold jS;refine L2 hw ha hn hf fun m1 k1=>⟨_,rfl,?_⟩
 rw[FF];exact h m1 k1
theorem L3{x y:Int}(hw:Wf m)(h:∀m',Keep m m'->Q (.bool (pm.uL (x,y))) m'):ah cx qP [.agg #[.int .i64 x,.int .i64 y]] m Q:=by
 apply yT;unfold vC;have k:Keep m (bump m 1):=(Keep.refl hw).bump;refine bQ (fun h1=>?_) (fun h1=>bQ (fun h2=>?_) (fun h2=>bQ (fun h3=>?_) (fun h3=>?_)))
 .exact dW h k (by simp[pm.uL,h1])
 .exact dW h k (by simp[pm.uL,h1,h2])
 .exact dW h k (by simp[pm.uL,h1,h2,h3])
 .exact dW h k (by simp[pm.uL,h1,h2,h3])
theorem yU{a:Option Addr}{n c:Nat}{p:List pm.Step}(hw:Wf m)(ha:Arr encP 2 m a n p)(h:∀m',Keep m m'->Q (.bool (pm.pGood p)) m'):ah cx nk [.slice a n c] m Q:=by
 apply A7;unfold yf;have hl:=ha.1;subst hl;refine bQ (fun h1=>bQ (fun h2=>?_) (fun h2=>?_)) (fun h1=>?_)
 .refine FG (f:=pm.uL) hw ha (by have:=hY.1 h2;simp[aQ]at this;omega) (fun x m1 R k1 hR=>L3 k1.wf hR) fun m1 k1=>⟨_,rfl,?_⟩
  exact dW h k1 (by simp[pm.pGood,h1,h2])
 .exact dW h (Keep.refl hw) (by simp[pm.pGood,h1,h2])
 .exact dW h (Keep.refl hw) (by simp[pm.pGood,h1])
theorem B1{p:List pm.Step}(h:pm.pGood p=true):1<=p.length/\p.length<=8:=by
 unfold pm.pGood at h;simp only[Bool.and_eq_true,hY,aQ]at h;omega
theorem KF{a a2:Option Addr}{n c n2 c2:Nat}{p:List pm.Step}(hw:Wf m)(ha:Arr encP 2 m a n p)(h:∀m',Keep m m'->Q (.bool (pm.ma p n2)) m'):ah cx tF [.slice a n c,.slice a2 n2 c2] m Q:=by
 apply A8;unfold yg;rw[dh];have k0:Keep m (newO m (row [.slice a2 n2 c2] kl false)):=(Keep.refl hw).newO;have hR:Row (newO m (row [.slice a2 n2 c2] kl false)) m.nx [.slice a2 n2 c2] kl false:=Row.newO;generalize newO m (row [.slice a2 n2 c2] kl false)=m0 at k0 hR;have ha0:=ha.keep hw k0;refine yU k0.wf ha0 fun m1 k1=>⟨_,rfl,bQ (fun h1=>?_) (fun h1=>?_)⟩
 .have hR1:=k1.row k0.wf hR;refine FG (f:=fun s=>dJ (aQ n2) s.1) k1.wf (ha0.keep k0.wf k1) (by have:=B1 h1;have:=ha.1;omega) (fun x m2 R k2 hRR=>?_) fun m2 k2=>⟨_,rfl,?_⟩
  .show ah cx qO [.agg #[.int .i64 x.1,.int .i64 x.2],.pointer (some ⟨m.nx,0,none⟩)] m2 R;apply yV;unfold vD;rw[ed];refine⟨a2,n2,c2,by rw[K7,(k2.row k1.wf hR1).rd];rfl,hRR _ (Keep.refl k2.wf).bump⟩
  .exact dW h ((k0.trans k1).trans k2) (by simp[pm.ma,h1])
 .exact dW h (k0.trans k1) (by simp[pm.ma,h1])
theorem FH{j:pm.Job}{k:Nat}(h:j.at_=(k:Int))(hk:k<j.prog.length):j.prog[k]? = some j.cur:=by
 unfold pm.Job.cur;rw[h,Int.toNat_natCast,List.getD_eq_getElem?_getD,List.getElem?_eq_getElem hk];rfl
theorem KG{num at_ done:Int}{a:Option Addr}{n c:Nat}{p:List pm.Step}(hw:Wf m)(ha:Arr encP 2 m a n p)(h:∀m',Keep m m'->Q (.bool (pm.nv ⟨num,p,at_,done⟩)) m') :
  ah cx vp [.agg #[.int .i64 num,.slice a n c,.int .i64 at_,.int .i64 done]] m Q:=by
 apply Cy;unfold Au eS;dsimp only;have k0:Keep m (bump m 1):=(Keep.refl hw).bump;have hl:=ha.1;refine bQ (fun h1=>?_) (fun h1=>?_)
 .exact dW h k0 (by simp[pm.nv,h1])
 refine yU k0.wf (ha.keep hw k0) fun m1 k1=>⟨_,rfl,?_⟩
 have k:=k0.trans k1;refine eV (fun h2=>?_) (fun h2=>?_)
 .exact dW h k (by simp[pm.nv,h1,h2])
 refine bQ (fun h3=>?_) (fun h3=>?_)
 .exact dW h k (by simp[pm.nv,h1,h2,h3])
 subst hl;refine bQ (fun h4=>?_) (fun h4=>?_)
 .exact dW h k (by simp[pm.nv,h1,h2,h3,h4])
 refine bQ (fun h5=>?_) (fun h5=>?_)
 .exact dW h k (by simp[pm.nv,h1,h2,h3,h4,h5])
 refine bQ (fun h6=>?_) (fun h6=>?_)
 .exact dW h k (by simp[pm.nv,h1,h2,h3,h4,h5,h6])
 .have g3:=eL.1 h3;have g4:=eL.1 h4;have g6:=fU.1 h6;simp only[aQ]at g4 g6;obtain⟨i,rfl⟩:∃i:Nat,at_=(i:Int):=⟨at_.toNat,by omega⟩
  have hlt:i<p.length:=by omega
  have hx:=FH (j:=⟨num,p,(i:Int),done⟩) rfl hlt;refine ha.open hx fun b o hc=>?_
  refine⟨_,wT (k.bump (n:=11)) hw (hc 1 _ rfl),?_⟩;exact dW h k.bump (by simp[pm.nv,h1,h2,h3,h4,h5,h6])
theorem vn{num at_ done:Int}{a:Option Addr}{n c:Nat}{p:List pm.Step}(hw:Wf m)(ha:Arr encP 2 m a n p)(h:∀m',Keep m m'->Q (.tuple #[.agg #[.int .i64 (pm.eD ⟨num,p,at_,done⟩).1.1,.int .i64 (pm.eD ⟨num,p,at_,done⟩).1.2],.bool (pm.eD ⟨num,p,at_,done⟩).2]) m') :
  ah cx mV [.agg #[.int .i64 num,.slice a n c,.int .i64 at_,.int .i64 done]] m Q:=by
 apply Cz;unfold Av eS;dsimp only;have k0:Keep m (bump m 2):=(Keep.refl hw).bump;have hl:=ha.1;refine KG k0.wf (ha.keep hw k0) fun m1 k1=>⟨_,rfl,?_⟩
 have k:=k0.trans k1;subst hl;refine eV (fun h1=>?_) (fun h1=>?_)
 .rw[fZ];exact dW h k (by simp[pm.eD,h1])
 refine bQ (fun h2=>?_) (fun h2=>?_)
 .exact dW h k (by simp[pm.eD,h1,h2])
 .have g:=h1;unfold pm.nv at g;simp only[Bool.and_eq_true,Bool.not_eq_true']at g;obtain⟨_,_,g3,g4,_⟩:=g;have g3:=eL.1 g3;have g4:=eL.1 g4;have g6:=fU.1 h2;simp only[aQ]at g4 g6;obtain⟨i,rfl⟩:∃i:Nat,at_=(i:Int):=⟨at_.toNat,by omega⟩
  have hlt:i<p.length:=by omega
  have hx:=FH (j:=⟨num,p,(i:Int),done⟩) rfl hlt;refine ha.open hx fun b o hc=>?_
  refine⟨_,wT k hw (hc 0 _ rfl),_,wT k hw (hc 1 _ rfl),?_⟩;exact dW h k (by simp[pm.eD,h1,h2])
theorem L4{num at_ done x:Int}{a:Option Addr}{n c:Nat}{p:List pm.Step}(hw:Wf m)(ha:Arr encP 2 m a n p)
  (h:∀m',Keep m m'->Q (.tuple #[KE (pm.gr ⟨num,p,at_,done⟩ x).1 a n c,.int .i64 (pm.gr ⟨num,p,at_,done⟩ x).2]) m') :
  ah cx wO [.agg #[.int .i64 num,.slice a n c,.int .i64 at_,.int .i64 done],.int .i64 x] m Q:=by
 apply Ec;unfold B2;have k0:Keep m (bump m 2):=(Keep.refl hw).bump;refine vn k0.wf (ha.keep hw k0) fun m1 k1=>⟨_,_,_,rfl,?_⟩
 have k:=(k0.trans k1).bump (n:=1);refine eV (fun h1=>?_) (fun h1=>?_)
 .exact dW h k (by simp[pm.gr,h1])
 .exact dW h k (by simp[pm.gr,h1])
theorem KB{num at_ done:Int}{a:Option Addr}{n c:Nat}{p:List pm.Step}(hw:Wf m)(ha:Arr encP 2 m a n p)
  (h:∀m',Keep m m'->Q (.tuple #[KE (pm.fa ⟨num,p,at_,done⟩).1 a n c,.bool (pm.fa ⟨num,p,at_,done⟩).2]) m') :
  ah cx vo [.agg #[.int .i64 num,.slice a n c,.int .i64 at_,.int .i64 done]] m Q:=by
 apply CB;unfold Aw eS;dsimp only;have k0:Keep m (bump m 2):=(Keep.refl hw).bump;refine vn k0.wf (ha.keep hw k0) fun m1 k1=>⟨_,_,_,rfl,?_⟩
 have k:=(k0.trans k1).bump (n:=1);refine eV (fun h1=>?_) (fun h1=>?_)
 .rw[fZ];exact dW h k (by simp[pm.fa,h1])
 refine bQ (fun h2=>?_) (fun h2=>?_)
 .exact dW h k (by simp[pm.fa,h1,h2])
 .exact dW h k (by simp[pm.fa,h1,h2])
theorem L5{num:Int}{a:Option Addr}{n c:Nat}{p:List pm.Step}(hw:Wf m)(ha:Arr encP 2 m a n p)(hg:pm.pGood p=true)
  (h:∀m' a' c',Keep m m'->Arr encP 2 m' a' n (pm.oX num p).1.prog∨(pm.oX num p).2=false->(∀b∈blk a',m.nx<=b)->Q (.tuple #[KE (pm.oX num p).1 (bif (pm.oX num p).2 then a' else none) (bif (pm.oX num p).2 then n else 0) (bif (pm.oX num p).2 then c' else 0),.bool (pm.oX num p).2]) m') :
  ah cx wN [.int .i64 num,.slice a n c] m Q:=by
 apply Ed;unfold B3 eS;dsimp only;have k0:Keep m (bump m 1):=(Keep.refl hw).bump;refine yU k0.wf (ha.keep hw k0) fun m1 k1=>⟨_,rfl,?_⟩
 have k:=k0.trans k1;have hl:=ha.1;refine eV (fun h1=>?_) (fun h1=>?_)
 .rw[hg]at h1;cases h1
 refine bQ (fun h2=>?_) (fun h2=>?_)
 .have:=h m1 none 0 k (.inr (by simp[pm.oX,h1,h2])) (fun b hb=>by cases hb);simpa [pm.oX,h1,h2]using this
 .rw[dh];have k2:Keep m (newO m1 (row [] gW false)):=k.newO;have hb:(newO m1 (row [] gW false)).hp.get m1.nx=some (row [] gW false):=by rw[gK,if_pos rfl]
  generalize newO m1 (row [] gW false)=m2 at k2 hb;have ha2:=ha.keep hw k2;have hlen:=B1 hg;have hap:=qU (cx:=cx) (t:=tG) (e:=gW) (s:=2) (m:=m2) (n:=0) (k:=n) (c:=0) (ck:=c) (a:=some ⟨m1.nx,0,none⟩) (v:=a) (old:=[]) (new:=p.flatMap encP) (by kernel_rfl)
   (by unfold giveUp;simp only[hb,row]) rfl (by simp) (ha2.first rP (by omega)) (by rw[eO rP,hl]) (by
    rw[List.all_eq_true];intro v hv;obtain⟨x,_,hx⟩:=List.mem_flatMap.1 hv;simp[encP]at hx;rcases hx with rfl|rfl<;>rfl) (by omega) (by omega)
  rw[List.nil_append,Nat.zero_add]at hap;refine⟨_,_,_,_,hap,?_⟩;have k3:Keep m (newO m2 (row (p.flatMap encP) gW true)):=k2.newO;have hR:Row (newO m2 (row (p.flatMap encP) gW true)) m2.nx (p.flatMap encP) gW true:=Row.newO;have hA:=Arr.of_row rP hR;rw[hl]at hA;have e1:pm.oX num p=(⟨num,p,0,0⟩,true):=by simp[pm.oX,h1,h2]
  have:=h _ (some ⟨m2.nx,0,none⟩) n k3 (.inl (by rw[e1];exact hA)) (fun b hb=>by simp[blk]at hb;subst hb;exact k2.nx);rw[e1]at this;exact this
end
end Go.Proofs.YtiehbnmpaeedpaaGreat.vc
