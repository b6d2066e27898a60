import Derived.Test.YthpnifigjfplbaaGreatQO31
import Derived.Test.YthpnifigjfplbaaGreatQO01
import Derived.Test.YthpnifigjfplbaaGreatQO19
import Derived.Test.YthpnifigjfplbaaGreatQO21
import Derived.Test.YthpnifigjfplbaaGreatQO29
import Derived.KernelRfl
import Derived.Test.YthpnifigjfplbaaGreatQO24
import Derived.Test.YthpnifigjfplbaaGreatQO22
set_option linter.unusedVariables false
set_option linter.unusedSimpArgs false
namespace Go.Proofs.YthpnifigjfplbaaGreat.vc
open Go Go.AX
noncomputable section
def fk(x:pl.E):List Value:=[.int .i64 x.1,.int .i64 x.2.1,.bool x.2.2]
def CU:List Value->Option (List pl.E)
 | []=>some []
 | .int .i64 a::.int .i64 b::.bool c::r=>match CU r with
  | some l=>some ((a,b,c)::l)
  | none=>none
 | _=>none
theorem D3:∀l:List pl.E,CU (l.flatMap fk)=some l
 | []=>rfl
 | (a,b,c)::l=>by
  show (match CU (l.flatMap fk)with|some l=>some ((a,b,c)::l)|none=>none)=_;rw[D3 l]
theorem Om{l:List Value}{xs:List pl.E}(h:CU l=some xs):l=xs.flatMap fk:=by
 fun_induction CU l generalizing xs with
 | case1=>cases h;rfl
 | case2 a b c r l hl ih=>
  cases h;rw[ih hl];rfl
 | case3=>cases h
 | case4=>cases h
def AE:List Value->Mem->Option (Value×Mem):=pQ 3 (Bz fk CU pl.srt) [.func (.func ft) #[] #[]]
def wJ:List Value->Mem->Option (Value×Mem):=pQ 1 By []
def B5:List Value->Mem->Option (Value×Mem):=pL vc0.cx cO dr 11 104
def vD:List (Nat×(List Value->Mem->Option (Value×Mem))):=[(kF,sd),(fK,wJ),(eL,AE),(eY,B5)]
def ov:Tr (List Value->Mem->Option (Value×Mem)):=vD.foldr (fun x t=>t.put x.1 x.2) .nil
def cx:Cx:=Cx.of Tryz.prog ov
theorem IZ:CxOk Tryz.prog cx:=CxOk.of _ _
theorem MK:cx.ov.get kF=some sd:=by
 show (vD.foldr (fun x t=>Tr.put t x.1 x.2) .nil).get _=_;simp only[vD,List.foldr_cons,List.foldr_nil,Tr.get_put];rfl
theorem HT:cx.ov.get fK=some wJ:=by
 show (vD.foldr (fun x t=>Tr.put t x.1 x.2) .nil).get _=_;simp only[vD,List.foldr_cons,List.foldr_nil,Tr.get_put];rfl
theorem KR:cx.ov.get eL=some AE:=by
 show (vD.foldr (fun x t=>Tr.put t x.1 x.2) .nil).get _=_;simp only[vD,List.foldr_cons,List.foldr_nil,Tr.get_put];rfl
theorem HN:cx.ov.get eY=some B5:=by
 show (vD.foldr (fun x t=>Tr.put t x.1 x.2) .nil).get _=_;simp only[vD,List.foldr_cons,List.foldr_nil,Tr.get_put];rfl
theorem HS:cx.ov=vD.foldr (fun x t=>Tr.put t x.1 x.2) .nil:=rfl
theorem On:FD AE:=Hv
theorem Oo:FE AE:=Hw
theorem ML:FD wJ:=Hv
theorem MM:FE wJ:=Hw
theorem MN:FD B5:=NN
theorem MO:FE B5:=NO
theorem dm:nP cx:=JW HS fun x hx=>by
 simp only[vD,List.mem_cons,List.not_mem_nil,or_false]at hx;rcases hx with h|h|h|h<;>rw[h]
 .exact LW
 .exact ML
 .exact On
 .exact MN
theorem de:mr cx:=JX HS fun x hx=>by
 simp only[vD,List.mem_cons,List.not_mem_nil,or_false]at hx;rcases hx with h|h|h|h<;>rw[h]
 .exact LX
 .exact MM
 .exact Oo
 .exact MO
end
end Go.Proofs.YthpnifigjfplbaaGreat.vc
namespace Go.Proofs.YthpnifigjfplbaaGreat.vc
open Go Go.AX
set_option maxRecDepth 100000
noncomputable section
def zQ(a:Int)(m:Mem)(Q:Value->Mem->Prop):Prop:=
 splitB (leI 0 a) (Q (.bool (leI a 4611686018427387904)) m) (Q (.bool false) m)
theorem CQ{a:Int}{m:Mem}{Q:Value->Mem->Prop}(h:zQ a m Q):ah cx iE [.int .i64 a] m Q:=
 ah.of (fn:=Tryz.f130) (LS:=[]) (ann:=[]) dm de (by kernel_rfl) (by kernel_rfl) (Eq.mp (by kernel_rfl) h)
def zR(d:Int)(m:Mem)(Q:Value->Mem->Prop):Prop:=
 ah cx iE [.int .i64 d] m fun c b=>∃a,c=(.bool a)/\splitB (!a) (Q (.tuple #[.int .i64 0,.bool false]) b) (Q (.tuple #[.int .i64 d,.bool true]) b)
theorem CR{d:Int}{m:Mem}{Q:Value->Mem->Prop}(h:zR d m Q):ah cx qQ [.int .i64 d] m Q:=
 ah.of (fn:=Tryz.f145) (LS:=[]) (ann:=[]) dm de (by kernel_rfl) (by kernel_rfl) (Eq.mp (by kernel_rfl) h)
def DU(a c b:Int)(m:Mem)(Q:Value->Mem->Prop):Prop:=
 splitB (leI c a) (Q (.bool (leI a b)) m) (Q (.bool false) m)
theorem Gv{a c b:Int}{m:Mem}{Q:Value->Mem->Prop}(h:DU a c b m Q):ah cx pq [.int .i64 a,.int .i64 c,.int .i64 b] m Q:=
 ah.of (fn:=Tryz.f144) (LS:=[]) (ann:=[]) dm de (by kernel_rfl) (by kernel_rfl) (Eq.mp (by kernel_rfl) h)
def BV(j l:Int)(m:Mem)(Q:Value->Mem->Prop):Prop:=
 dQ (fun(p:Mem)=>ah cx qQ [.int .i64 (bh .i64 j l)] p fun i g=>∃f a,i=(.tuple #[.int .i64 f,.bool a])/\Q (.tuple #[.int .i64 f,.bool a]) g) fun k=>ah cx iE [.int .i64 j] m fun n c=>∃b,n=(.bool b)/\splitB (!b) (Q (.tuple #[.int .i64 0,.bool false]) c) (ah cx iE [.int .i64 l] c fun o d=>∃e,o=(.bool e)/\splitB (!e) (Q (.tuple #[.int .i64 0,.bool false]) d) (k d))
theorem EA{j l:Int}{m:Mem}{Q:Value->Mem->Prop}(h:BV j l m Q):ah cx wE [.int .i64 j,.int .i64 l] m Q:=
 ah.of (fn:=Tryz.f131) (LS:=[]) (ann:=[none,some ⟨[0,1],[],[],[],[],0⟩]) dm de (by kernel_rfl) (by kernel_rfl) (Eq.mp (by kernel_rfl) h)
def yw(j l a:Int)(m:Mem)(Q:Value->Mem->Prop):Prop:=
 dQ (fun(p:Mem)=>a≠0/\Q (.tuple #[.int .i64 (nQ .i64 (ig .i64 j l) a),.bool true]) p) fun k=>ah cx pq [.int .i64 j,.int .i64 0,.int .i64 2147483648] m fun n b=>∃d,n=(.bool d)/\splitB (!d) (Q (.tuple #[.int .i64 0,.bool false]) b) (ah cx pq [.int .i64 a,.int .i64 1,.int .i64 2147483648] b fun o e=>∃c,o=(.bool c)/\splitB (!c) (Q (.tuple #[.int .i64 0,.bool false]) e) (ah cx pq [.int .i64 l,.int .i64 0,.int .i64 a] e fun i f=>∃g,i=(.bool g)/\splitB (!g) (Q (.tuple #[.int .i64 0,.bool false]) f) (k f)))
theorem BW{j l a:Int}{m:Mem}{Q:Value->Mem->Prop}(h:yw j l a m Q):ah cx tG [.int .i64 j,.int .i64 l,.int .i64 a] m Q:=
 ah.of (fn:=Tryz.f132) (LS:=[]) (ann:=[none,some ⟨[0,1,2],[],[],[],[],0⟩]) dm de (by kernel_rfl) (by kernel_rfl) (Eq.mp (by kernel_rfl) h)
def DV(f a b:Int)(m:Mem)(Q:Value->Mem->Prop):Prop:=
 dQ (fun(e:Mem)=>splitB (cS f a) (Q (.tuple #[.int .i64 a,.bool true]) e) (b≠0/\(ah cx qQ [.int .i64 (bh .i64 a (ig .i64 (bh .i64 (nQ .i64 (dk .i64 f a) b) 1) b))] e fun p o=>∃d k,p=(.tuple #[.int .i64 d,.bool k])/\Q (.tuple #[.int .i64 d,.bool k]) o))) fun r=>ah cx iE [.int .i64 f] m fun s l=>∃g,s=(.bool g)/\splitB (!g) (Q (.tuple #[.int .i64 0,.bool false]) l) (ah cx iE [.int .i64 a] l fun t n=>∃c,t=(.bool c)/\splitB (!c) (Q (.tuple #[.int .i64 0,.bool false]) n) (ah cx pq [.int .i64 b,.int .i64 1,.int .i64 2147483648] n fun q i=>∃j,q=(.bool j)/\splitB (!j) (Q (.tuple #[.int .i64 0,.bool false]) i) (r i)))
theorem Gw{f a b:Int}{m:Mem}{Q:Value->Mem->Prop}(h:DV f a b m Q):ah cx yx [.int .i64 f,.int .i64 a,.int .i64 b] m Q:=
 ah.of (fn:=Tryz.f112) (LS:=[]) (ann:=[none,some ⟨[0,1,2],[],[],[],[],0⟩]) dm de (by kernel_rfl) (by kernel_rfl) (Eq.mp (by kernel_rfl) h)
def BX(b a:Int)(m:Mem)(Q:Value->Mem->Prop):Prop:=
 splitB (leI 1 a) (splitB (leI a 2147483648) (splitB (leI 1 b) (Q (.bool (leI b a)) m) (Q (.bool false) m)) (Q (.bool false) m)) (Q (.bool false) m)
theorem EB{b a:Int}{m:Mem}{Q:Value->Mem->Prop}(h:BX b a m Q):ah cx sy [.int .i64 b,.int .i64 a] m Q:=
 ah.of (fn:=Tryz.f124) (LS:=[]) (ann:=[]) dm de (by kernel_rfl) (by kernel_rfl) (Eq.mp (by kernel_rfl) h)
def DW(d c:Int)(m:Mem)(Q:Value->Mem->Prop):Prop:=
 ah cx sy [.int .i64 d,.int .i64 c] (bump m 1) fun e b=>∃a,e=(.bool a)/\splitB (!a) (Q (.tuple #[.agg #[.int .i64 0,.int .i64 0,.int .i64 0,.int .i64 0,.int .i64 0],.int .i64 1]) b) (Q (.tuple #[.agg #[.int .i64 d,.int .i64 c,.int .i64 0,.int .i64 0,.int .i64 0],.int .i64 0]) b)
theorem Gx{d c:Int}{m:Mem}{Q:Value->Mem->Prop}(h:DW d c m Q):ah cx yy [.int .i64 d,.int .i64 c] m Q:=
 ah.of (fn:=Tryz.f85) (LS:=[4]) (ann:=[]) dm de (by kernel_rfl) (by kernel_rfl) (Eq.mp (by kernel_rfl) h)
def BY(j l f k c:Int)(m:Mem)(Q:Value->Mem->Prop):Prop:=
 ah cx sy [.int .i64 j,.int .i64 l] (bump m 1) fun g b=>∃e,g=(.bool e)/\splitB e (splitB (leI 0 f) (splitB (leI f j) (ah cx iE [.int .i64 k] b fun i a=>∃d,i=(.bool d)/\splitB d (splitB (leI 0 c) (splitB (leI c 2) (splitB (dU c 1) (Q (.bool true) a) (Q (.bool (cS 0 f)) a)) (Q (.bool false) a)) (Q (.bool false) a)) (Q (.bool false) a)) (Q (.bool false) b)) (Q (.bool false) b)) (Q (.bool false) b)
theorem EC{j l f k c:Int}{m:Mem}{Q:Value->Mem->Prop}(h:BY j l f k c m Q):ah cx lP [.agg #[.int .i64 j,.int .i64 l,.int .i64 f,.int .i64 k,.int .i64 c]] m Q:=
 ah.of (fn:=Tryz.f111) (LS:=[1]) (ann:=[]) dm de (by kernel_rfl) (by kernel_rfl) (Eq.mp (by kernel_rfl) h)
def zS(c d a b e:Int)(m:Mem)(Q:Value->Mem->Prop):Prop:=
 splitB (cU a 0) (Q (.agg #[.int .i64 c,.int .i64 d,.int .i64 a,.int .i64 b,.int .i64 2]) (bump m 2)) (Q (.agg #[.int .i64 c,.int .i64 d,.int .i64 a,.int .i64 b,.int .i64 1]) (bump m 2))
theorem CS{c d a b e:Int}{m:Mem}{Q:Value->Mem->Prop}(h:zS c d a b e m Q):ah cx ml [.agg #[.int .i64 c,.int .i64 d,.int .i64 a,.int .i64 b,.int .i64 e]] m Q:=
 ah.of (fn:=Tryz.f113) (LS:=[1,2]) (ann:=[]) dm de (by kernel_rfl) (by kernel_rfl) (Eq.mp (by kernel_rfl) h)
def B2(b a f c d g:Int)(m:Mem)(Q:Value->Mem->Prop):Prop:=
 dQ (fun(M:Bool)(e:Mem)=>splitB M (Q (.tuple #[.agg #[.int .i64 b,.int .i64 a,.int .i64 f,.int .i64 c,.int .i64 d],.int .i64 1]) e) (splitB (dU d 0) (Q (.tuple #[.agg #[.int .i64 b,.int .i64 a,.int .i64 f,.int .i64 c,.int .i64 d],.int .i64 5]) e) (splitB (leI c g) (ah cx wE [.int .i64 g,.int .i64 a] e fun D j=>∃p i,D=(.tuple #[.int .i64 p,.bool i])/\splitB (!i) (Q (.tuple #[.agg #[.int .i64 b,.int .i64 a,.int .i64 f,.int .i64 c,.int .i64 d],.int .i64 6]) j) (ah cx ml [.agg #[.int .i64 b,.int .i64 a,.int .i64 b,.int .i64 p,.int .i64 d]] j fun N T=>∃q k r n o,N=(.agg #[.int .i64 q,.int .i64 k,.int .i64 r,.int .i64 n,.int .i64 o])/\Q (.tuple #[.agg #[.int .i64 q,.int .i64 k,.int .i64 r,.int .i64 n,.int .i64 o],.int .i64 0]) T)) (dQ (fun(V:Int)(G:Int)(S:Int)(O:Int)(C:Int)(U:Mem)=>ah cx ml [.agg #[.int .i64 V,.int .i64 G,.int .i64 S,.int .i64 O,.int .i64 C]] U fun E R=>∃s z l B v,E=(.agg #[.int .i64 s,.int .i64 z,.int .i64 l,.int .i64 B,.int .i64 v])/\Q (.tuple #[.agg #[.int .i64 s,.int .i64 z,.int .i64 l,.int .i64 B,.int .i64 v],.int .i64 0]) R) fun A=>splitB (cS (ig .i64 (fI (dk .i64 c g) a) b) (ig .i64 f a)) (ah cx tG [.int .i64 (fI (dk .i64 c g) a),.int .i64 b,.int .i64 a] e fun K F=>∃w L,K=(.tuple #[.int .i64 w,.bool L])/\A b a w c d F) (A b a f c d e))))) fun u=>ah cx lP [.agg #[.int .i64 b,.int .i64 a,.int .i64 f,.int .i64 c,.int .i64 d]] (bump m 2) fun I x=>∃y,I=(.bool y)/\splitB (!y) (u true x) (ah cx iE [.int .i64 g] x fun P H=>∃t,P=(.bool t)/\u (!t) H)
theorem EG{b a f c d g:Int}{m:Mem}{Q:Value->Mem->Prop}(h:B2 b a f c d g m Q):ah cx wH [.agg #[.int .i64 b,.int .i64 a,.int .i64 f,.int .i64 c,.int .i64 d],.int .i64 g] m Q:=
 ah.of (fn:=Tryz.f90) (LS:=[2,4]) (ann:=[none,none,some ⟨[1],[(9,.bool)],[(2,0,0),(4,1,0)],[0,1],[],2⟩,none,none,none,none,none,none,none,none,none,none,none,none,some ⟨[],[(76,.int .i64),(77,.int .i64),(78,.int .i64),(79,.int .i64),(80,.int .i64)],[(2,0,0),(4,1,0)],[1],[(0,[76,77,78,79,80])],4⟩]) dm de (by kernel_rfl) (by kernel_rfl) (Eq.mp (by kernel_rfl) h)
def DX(d f b i a q:Int)(m:Mem)(Q:Value->Mem->Prop):Prop:=
 dQ (fun(u:Bool)(c:Mem)=>splitB u (Q (.tuple #[.agg #[.int .i64 d,.int .i64 f,.int .i64 b,.int .i64 i,.int .i64 a],.int .i64 1]) c) (splitB (dU a 1) (Q (.tuple #[.agg #[.int .i64 d,.int .i64 f,.int .i64 b,.int .i64 i,.int .i64 a],.int .i64 4]) c) (ah cx ml [.agg #[.int .i64 d,.int .i64 f,.int .i64 (dk .i64 b q),.int .i64 i,.int .i64 a]] c fun s r=>∃o n j p k,s=(.agg #[.int .i64 o,.int .i64 n,.int .i64 j,.int .i64 p,.int .i64 k])/\Q (.tuple #[.agg #[.int .i64 o,.int .i64 n,.int .i64 j,.int .i64 p,.int .i64 k],.int .i64 0]) r))) fun e=>ah cx lP [.agg #[.int .i64 d,.int .i64 f,.int .i64 b,.int .i64 i,.int .i64 a]] (bump m 2) fun t g=>∃l,t=(.bool l)/\splitB (!l) (e true g) (splitB (cS q 1) (e true g) (e (cS b q) g))
theorem Gy{d f b i a q:Int}{m:Mem}{Q:Value->Mem->Prop}(h:DX d f b i a q m Q):ah cx uw [.agg #[.int .i64 d,.int .i64 f,.int .i64 b,.int .i64 i,.int .i64 a],.int .i64 q] m Q:=
 ah.of (fn:=Tryz.f79) (LS:=[2,4]) (ann:=[none,none,some ⟨[1],[(6,.bool)],[(2,0,0),(4,1,0)],[0,1],[],2⟩]) dm de (by kernel_rfl) (by kernel_rfl) (Eq.mp (by kernel_rfl) h)
def BZ(d e f b a:Int)(m:Mem)(Q:Value->Mem->Prop):Prop:=
 ah cx lP [.agg #[.int .i64 d,.int .i64 e,.int .i64 f,.int .i64 b,.int .i64 a]] (bump m 2) fun i c=>∃g,i=(.bool g)/\splitB (!g) (Q (.tuple #[.agg #[.int .i64 d,.int .i64 e,.int .i64 f,.int .i64 b,.int .i64 a],.int .i64 1]) c) (splitB (cU a 0) (Q (.tuple #[.agg #[.int .i64 d,.int .i64 e,.int .i64 f,.int .i64 b,.int .i64 a],.int .i64 4]) c) (Q (.tuple #[.agg #[.int .i64 d,.int .i64 e,.int .i64 f,.int .i64 b,.int .i64 0],.int .i64 0]) c))
theorem ED{d e f b a:Int}{m:Mem}{Q:Value->Mem->Prop}(h:BZ d e f b a m Q):ah cx wF [.agg #[.int .i64 d,.int .i64 e,.int .i64 f,.int .i64 b,.int .i64 a]] m Q:=
 ah.of (fn:=Tryz.f110) (LS:=[1,2]) (ann:=[]) dm de (by kernel_rfl) (by kernel_rfl) (Eq.mp (by kernel_rfl) h)
def B0(d e f b a:Int)(m:Mem)(Q:Value->Mem->Prop):Prop:=
 ah cx lP [.agg #[.int .i64 d,.int .i64 e,.int .i64 f,.int .i64 b,.int .i64 a]] (bump m 2) fun i c=>∃g,i=(.bool g)/\splitB (!g) (Q (.tuple #[.agg #[.int .i64 d,.int .i64 e,.int .i64 f,.int .i64 b,.int .i64 a],.int .i64 1]) c) (splitB (dU a 1) (Q (.tuple #[.agg #[.int .i64 d,.int .i64 e,.int .i64 f,.int .i64 b,.int .i64 a],.int .i64 4]) c) (Q (.tuple #[.agg #[.int .i64 d,.int .i64 e,.int .i64 f,.int .i64 b,.int .i64 2],.int .i64 0]) c))
theorem EE{d e f b a:Int}{m:Mem}{Q:Value->Mem->Prop}(h:B0 d e f b a m Q):ah cx wG [.agg #[.int .i64 d,.int .i64 e,.int .i64 f,.int .i64 b,.int .i64 a]] m Q:=
 ah.of (fn:=Tryz.f115) (LS:=[1,2]) (ann:=[]) dm de (by kernel_rfl) (by kernel_rfl) (Eq.mp (by kernel_rfl) h)
def B1(b c s d a u:Int)(m:Mem)(Q:Value->Mem->Prop):Prop:=
 dQ (fun(t:Bool)(o:Mem)=>splitB t (Q (.tuple #[.agg #[.int .i64 b,.int .i64 c,.int .i64 s,.int .i64 d,.int .i64 a],.bool false]) o) (ah cx yx [.int .i64 u,.int .i64 d,.int .i64 c] o fun w i=>∃g p,w=(.tuple #[.int .i64 g,.bool p])/\splitB (!p) (Q (.tuple #[.agg #[.int .i64 b,.int .i64 c,.int .i64 s,.int .i64 d,.int .i64 a],.bool false]) i) (ah cx ml [.agg #[.int .i64 b,.int .i64 c,.int .i64 b,.int .i64 g,.int .i64 a]] i fun x v=>∃l k r n j,x=(.agg #[.int .i64 l,.int .i64 k,.int .i64 r,.int .i64 n,.int .i64 j])/\Q (.tuple #[.agg #[.int .i64 l,.int .i64 k,.int .i64 r,.int .i64 n,.int .i64 j],.bool true]) v))) fun e=>ah cx lP [.agg #[.int .i64 b,.int .i64 c,.int .i64 s,.int .i64 d,.int .i64 a]] (bump m 2) fun y f=>∃q,y=(.bool q)/\splitB (!q) (e true f) (splitB (cU a 0) (e true f) (e (cS u d) f))
theorem EF{b c s d a u:Int}{m:Mem}{Q:Value->Mem->Prop}(h:B1 b c s d a u m Q):ah cx sA [.agg #[.int .i64 b,.int .i64 c,.int .i64 s,.int .i64 d,.int .i64 a],.int .i64 u] m Q:=
 ah.of (fn:=Tryz.f73) (LS:=[2,4]) (ann:=[none,none,some ⟨[1],[(21,.bool)],[(2,0,0),(4,1,0)],[0,1],[],2⟩]) dm de (by kernel_rfl) (by kernel_rfl) (Eq.mp (by kernel_rfl) h)
def yz(c b:Int)(m:Mem)(Q:Value->Mem->Prop):Prop:=
 dQ (fun(e:Bool)(d:Mem)=>splitB e (Q (.tuple #[.int .i64 0,.int .i64 0,.bool false]) d) (Q (.tuple #[.int .i64 (ig .i64 (dk .i64 c 1) b),.int .i64 (ig .i64 c b),.bool true]) d)) fun a=>splitB (cS c 1) (a true m) (splitB (cS 64 c) (a true m) (splitB (cS b 1) (a true m) (a (cS 1048576 b) m)))
theorem B3{c b:Int}{m:Mem}{Q:Value->Mem->Prop}(h:yz c b m Q):ah cx tI [.int .i64 c,.int .i64 b] m Q:=
 ah.of (fn:=Tryz.f146) (LS:=[]) (ann:=[none,none,some ⟨[0,1],[(20,.bool)],[],[],[],0⟩]) dm de (by kernel_rfl) (by kernel_rfl) (Eq.mp (by kernel_rfl) h)
def xi(f i g j:Int)(m:Mem)(Q:Value->Mem->Prop):Prop:=
 ah cx tI [.int .i64 f,.int .i64 i] m fun d b=>∃e a c,d=(.tuple #[.int .i64 e,.int .i64 a,.bool c])/\splitB c (splitB (leI a g) (Q (.bool (leI a j)) b) (Q (.bool false) b)) (Q (.bool false) b)
theorem AA{f i g j:Int}{m:Mem}{Q:Value->Mem->Prop}(h:xi f i g j m Q):ah cx rO [.int .i64 f,.int .i64 i,.int .i64 g,.int .i64 j] m Q:=
 ah.of (fn:=Tryz.f114) (LS:=[]) (ann:=[]) dm de (by kernel_rfl) (by kernel_rfl) (Eq.mp (by kernel_rfl) h)
def xm(b a:Int)(m:Mem)(Q:Value->Mem->Prop):Prop:=
 splitB (cS b 0) (Q (.bool true) (bump m 1)) (splitB (cS 8 b) (Q (.bool true) (bump m 1)) (splitB (cS a 1) (Q (.bool true) (bump m 1)) (Q (.bool (cS 2147483648 a)) (bump m 1))))
theorem AL{b a:Int}{m:Mem}{Q:Value->Mem->Prop}(h:xm b a m Q):ah cx rQ [.agg #[.int .i64 b,.int .i64 a]] m Q:=
 ah.of (fn:=Tryz.f158) (LS:=[1]) (ann:=[]) dm de (by kernel_rfl) (by kernel_rfl) (Eq.mp (by kernel_rfl) h)
def lm(q:Option Addr)(n s:Nat)(r:Value)(m:Mem)(Q:Value->Mem->Prop):Prop:=
 ∃c:Int->Mem->Nat->Prop,(∃o:Nat,c 0 m o)/\∀a b f,c a b f->splitB (cS a (aQ n)) ((0<=a/\a<((n:Nat):Int))/\(cZ q fun j i=>∃l,rd b j (i+Int.toNat a*2)=some (.int .i64 l)/\∃k,rd b j (i+Int.toNat a*2+1)=some (.int .i64 k)/\(jT cx b r [.agg #[.int .i64 l,.int .i64 k]] fun p d=>∃g,p=(.bool g)/\splitB g (Q (.int .i64 a) d) (∃e:Nat,e<f/\c (bh .i64 a 1) d e)))) (Q (.int .i64 (-1:Int)) b)
theorem pB{q:Option Addr}{n s:Nat}{r:Value}{m:Mem}{Q:Value->Mem->Prop}(h:lm q n s r m Q):ah cx it [.slice q n s,r] m Q:=
 ah.of (fn:=Tryz.f159) (LS:=[]) (ann:=[none,none,none,some ⟨[0,1,7],[(8,.int .i64)],[],[],[],0⟩]) dm de (by kernel_rfl) (by kernel_rfl) (Eq.mp (by kernel_rfl) h)
def jR(e:Option Addr)(g d:Nat)(f:Value)(m:Mem)(Q:Value->Mem->Prop):Prop:=
 ah cx it [.slice e g d,f] m fun b c=>∃a,b=(.int .i64 a)/\Q (.bool (leI 0 a)) c
theorem nV{e:Option Addr}{g d:Nat}{f:Value}{m:Mem}{Q:Value->Mem->Prop}(h:jR e g d f m Q):ah cx fR [.slice e g d,f] m Q:=
 ah.of (fn:=Tryz.f129) (LS:=[]) (ann:=[]) dm de (by kernel_rfl) (by kernel_rfl) (Eq.mp (by kernel_rfl) h)
def zY(f:Option Addr)(b e:Nat)(m:Mem)(Q:Value->Mem->Prop):Prop:=
 splitB (leI 1 (aQ b)) (splitB (leI (aQ b) 8) (ah cx fR [.slice f b e,.func (.func rQ) #[] #[]] m fun c d=>∃a,c=(.bool a)/\Q (.bool (!a)) d) (Q (.bool false) m)) (Q (.bool false) m)
theorem C1{f:Option Addr}{b e:Nat}{m:Mem}{Q:Value->Mem->Prop}(h:zY f b e m Q):ah cx ox [.slice f b e] m Q:=
 ah.of (fn:=Tryz.f128) (LS:=[]) (ann:=[]) dm de (by kernel_rfl) (by kernel_rfl) (Eq.mp (by kernel_rfl) h)
def xn(g i:Int)(f:Option Addr)(m:Mem)(Q:Value->Mem->Prop):Prop:=
 cZ f fun d e=>∃c a b,rd (bump m 1) d e=some (.slice c a b)/\Q (.bool (cS (aQ a) g)) (bump m 1)
theorem AN{g i:Int}{f:Option Addr}{m:Mem}{Q:Value->Mem->Prop}(h:xn g i f m Q):ah cx rP [.agg #[.int .i64 g,.int .i64 i],.pointer f] m Q:=
 ah.of (fn:=Tryz.f127) (LS:=[2]) (ann:=[]) dm de (by kernel_rfl) (by kernel_rfl) (Eq.mp (by kernel_rfl) h)
def zZ(i n:Option Addr)(k d l o:Nat)(m:Mem)(Q:Value->Mem->Prop):Prop:=
 cY (newO m (row [.slice n l o] ka false)) fun j=>ah cx ox [.slice i k d] j fun g a=>∃b,g=(.bool b)/\splitB b (ah cx fR [.slice i k d,.func (.func rP) #[] #[.pointer (some ⟨m.nx,0,none⟩)]] a fun e f=>∃c,e=(.bool c)/\Q (.bool (!c)) f) (Q (.bool false) a)
theorem C2{i n:Option Addr}{k d l o:Nat}{m:Mem}{Q:Value->Mem->Prop}(h:zZ i n k d l o m Q):ah cx uY [.slice i k d,.slice n l o] m Q:=
 ah.of (fn:=Tryz.f87) (LS:=[]) (ann:=[]) dm de (by kernel_rfl) (by kernel_rfl) (Eq.mp (by kernel_rfl) h)
def Ce(p b g:Int)(j:Option Addr)(d o:Nat)(m:Mem)(Q:Value->Mem->Prop):Prop:=
 dQ (fun(c:Mem)=>splitB (cU b (aQ d)) (Q (.bool (cU g 0)) c) ((0<=b/\b<((d:Nat):Int))/\(cZ j fun l k=>∃f,rd (bump c 11) l (k+Int.toNat b*2+1)=some (.int .i64 f)/\Q (.bool (leI g f)) (bump c 11)))) fun i=>splitB (cS p 1) (Q (.bool false) (bump m 1)) (ah cx ox [.slice j d o] (bump m 1) fun n a=>∃e,n=(.bool e)/\splitB (!e) (Q (.bool false) a) (splitB (cS b 0) (Q (.bool false) a) (splitB (cS (aQ d) b) (Q (.bool false) a) (splitB (cS g 0) (Q (.bool false) a) (i a)))))
theorem EM{p b g:Int}{j:Option Addr}{d o:Nat}{m:Mem}{Q:Value->Mem->Prop}(h:Ce p b g j d o m Q):ah cx wT [.agg #[.int .i64 p,.slice j d o,.int .i64 b,.int .i64 g]] m Q:=
 ah.of (fn:=Tryz.f117) (LS:=[1]) (ann:=[none,some ⟨[],[],[(1,0,0)],[0],[],1⟩]) dm de (by kernel_rfl) (by kernel_rfl) (Eq.mp (by kernel_rfl) h)
def D9(n:Int)(o:Option Addr)(j q:Nat)(m:Mem)(Q:Value->Mem->Prop):Prop:=
 dQ (fun(l:Bool)(a:Mem)=>splitB l (Q (.tuple #[.agg #[.int .i64 0,.slice none 0 0,.int .i64 0,.int .i64 0],.bool false]) a) (cY (newO a (row [] fU false)) fun k=>∃d b c g,cQ cx k [vd,vd] [.slice (some ⟨a.nx,0,none⟩) 0 0,.slice o j q]=some (.slice d b c,g)/\Q (.tuple #[.agg #[.int .i64 n,.slice d b c,.int .i64 0,.int .i64 0],.bool true]) g)) fun f=>ah cx ox [.slice o j q] (bump m 1) fun p i=>∃e,p=(.bool e)/\splitB (!e) (f true i) (f (cS n 1) i)
theorem GD{n:Int}{o:Option Addr}{j q:Nat}{m:Mem}{Q:Value->Mem->Prop}(h:D9 n o j q m Q):ah cx yC [.int .i64 n,.slice o j q] m Q:=
 ah.of (fn:=Tryz.f89) (LS:=[4]) (ann:=[none,none,some ⟨[0,1],[(12,.bool)],[(4,0,0)],[0],[],1⟩]) dm de (by kernel_rfl) (by kernel_rfl) (Eq.mp (by kernel_rfl) h)
def Cf(q a r:Int)(l:Option Addr)(g p:Nat)(m:Mem)(Q:Value->Mem->Prop):Prop:=
 dQ (fun(n:Bool)(b:Mem)=>splitB n (Q (.tuple #[.agg #[.int .i64 0,.int .i64 0],.bool false]) b) ((0<=a/\a<((g:Nat):Int))/\(cZ l fun j i=>∃k,rd b j (i+Int.toNat a*2)=some (.int .i64 k)/\∃d,rd b j (i+Int.toNat a*2+1)=some (.int .i64 d)/\Q (.tuple #[.agg #[.int .i64 k,.int .i64 d],.bool true]) b))) fun f=>ah cx wT [.agg #[.int .i64 q,.slice l g p,.int .i64 a,.int .i64 r]] (bump m 2) fun o c=>∃e,o=(.bool e)/\splitB (!e) (f true c) (f (cU a (aQ g)) c)
theorem EN{q a r:Int}{l:Option Addr}{g p:Nat}{m:Mem}{Q:Value->Mem->Prop}(h:Cf q a r l g p m Q):ah cx lW [.agg #[.int .i64 q,.slice l g p,.int .i64 a,.int .i64 r]] m Q:=
 ah.of (fn:=Tryz.f78) (LS:=[1,2]) (ann:=[none,none,some ⟨[],[(14,.bool)],[(1,0,0),(2,1,0)],[0,1],[],2⟩]) dm de (by kernel_rfl) (by kernel_rfl) (Eq.mp (by kernel_rfl) h)
def D8(f i a n:Int)(g:Option Addr)(j d:Nat)(m:Mem)(Q:Value->Mem->Prop):Prop:=
 ah cx lW [.agg #[.int .i64 f,.slice g j d,.int .i64 i,.int .i64 a]] (bump m 2) fun l e=>∃k b c,l=(.tuple #[.agg #[.int .i64 k,.int .i64 b],.bool c])/\splitB (!c) (Q (.tuple #[.agg #[.int .i64 f,.slice g j d,.int .i64 i,.int .i64 a],.int .i64 0]) (bump e 1)) (Q (.tuple #[.agg #[.int .i64 f,.slice g j d,.int .i64 i,.int .i64 (bh .i64 a (fI (jP n 0) (dk .i64 b a)))],.int .i64 (fI (jP n 0) (dk .i64 b a))]) (bump e 1))
theorem GC{f i a n:Int}{g:Option Addr}{j d:Nat}{m:Mem}{Q:Value->Mem->Prop}(h:D8 f i a n g j d m Q):ah cx uA [.agg #[.int .i64 f,.slice g j d,.int .i64 i,.int .i64 a],.int .i64 n] m Q:=
 ah.of (fn:=Tryz.f80) (LS:=[2,4,6]) (ann:=[]) dm de (by kernel_rfl) (by kernel_rfl) (Eq.mp (by kernel_rfl) h)
def Cg(d i l:Int)(g:Option Addr)(k b:Nat)(m:Mem)(Q:Value->Mem->Prop):Prop:=
 ah cx lW [.agg #[.int .i64 d,.slice g k b,.int .i64 i,.int .i64 l]] (bump m 2) fun n c=>∃o j e,n=(.tuple #[.agg #[.int .i64 o,.int .i64 j],.bool e])/\(dQ (fun(p:Bool)(a:Mem)=>splitB p (Q (.tuple #[.agg #[.int .i64 d,.slice g k b,.int .i64 i,.int .i64 l],.bool false]) a) (Q (.tuple #[.agg #[.int .i64 d,.slice g k b,.int .i64 (bh .i64 i 1),.int .i64 0],.bool true]) a)) fun f=>splitB (!e) (f true (bump c 1)) (f (dU l j) (bump c 1)))
theorem EO{d i l:Int}{g:Option Addr}{k b:Nat}{m:Mem}{Q:Value->Mem->Prop}(h:Cg d i l g k b m Q):ah cx wR [.agg #[.int .i64 d,.slice g k b,.int .i64 i,.int .i64 l]] m Q:=
 ah.of (fn:=Tryz.f109) (LS:=[1,2,4]) (ann:=[none,none,none,some ⟨[],[(19,.bool)],[(1,0,0),(2,1,0)],[0,1],[],4⟩]) dm de (by kernel_rfl) (by kernel_rfl) (Eq.mp (by kernel_rfl) h)
def ke(a:Int)(m:Mem)(Q:Value->Mem->Prop):Prop:=
 Q (.bool (dU a a)) m
theorem nk{a:Int}{m:Mem}{Q:Value->Mem->Prop}(h:ke a m Q):ah cx gy [.int .i64 a] m Q:=
 ah.of (fn:=Tryz.f143) (LS:=[]) (ann:=[]) dm de (by kernel_rfl) (by kernel_rfl) (Eq.mp (by kernel_rfl) h)
def iU(c e:Int)(m:Mem)(Q:Value->Mem->Prop):Prop:=
 ah cx gy [.int .i64 c] m fun i f=>∃d,i=(.bool d)/\(ah cx gy [.int .i64 e] f fun g a=>∃b,g=(.bool b)/\splitB d (splitB b (Q (.int .i64 0) a) (Q (.int .i64 (-1:Int)) a)) (splitB b (Q (.int .i64 1) a) (splitB (cS c e) (Q (.int .i64 (-1:Int)) a) (splitB (cS e c) (Q (.int .i64 1) a) (Q (.int .i64 0) a)))))
theorem lQ{c e:Int}{m:Mem}{Q:Value->Mem->Prop}(h:iU c e m Q):ah cx hY [.int .i64 c,.int .i64 e] m Q:=
 ah.of (fn:=Tryz.f106) (LS:=[]) (ann:=[]) dm de (by kernel_rfl) (by kernel_rfl) (Eq.mp (by kernel_rfl) h)
end
end Go.Proofs.YthpnifigjfplbaaGreat.vc
namespace Go.Proofs.YthpnifigjfplbaaGreat.vc
open Go Go.AX
@[reducible] def Az (s:pm.Srv):Value:=.agg #[.int .i64 s.q,.int .i64 s.p,.int .i64 s.bud,.int .i64 s.due,.int .i64 s.mode]
section
variable {m:Mem}{Q:Value->Mem->Prop}
theorem dw{r r':Value}{m m':Mem}(h:∀m',Keep m m'->Q r m')(k:Keep m m')(e:r=r'):Q r' m':=e▸h m' k
theorem oP{x:Int}(hw:Wf m)(h:∀m',Keep m m'->Q (.bool (pm.gv x)) m'):ah cx iE [.int .i64 x] m Q:=by
 apply CQ;unfold zQ;refine cJ (fun h1=>?_) (fun h1=>?_)
 .exact dw h (Keep.refl hw) (by simp[pm.gv,h1])
 .exact dw h (Keep.refl hw) (by simp[pm.gv,h1])
theorem Gu{x:Int}(hw:Wf m)(h:∀m',Keep m m'->Q (.tuple #[.int .i64 (pm.qO x).1,.bool (pm.qO x).2]) m'):ah cx qQ [.int .i64 x] m Q:=by
 apply CR;unfold zR;refine oP hw fun m1 k1=>⟨_,rfl,?_⟩
 refine dM (fun h1=>?_) (fun h1=>?_)
 .exact dw h k1 (by simp[pm.qO,h1])
 .exact dw h k1 (by simp[pm.qO,h1])
theorem BU{x a b:Int}(hw:Wf m)(h:∀m',Keep m m'->Q (.bool (pm.rT x a b)) m'):ah cx pq [.int .i64 x,.int .i64 a,.int .i64 b] m Q:=by
 apply Gv;unfold DU;refine cJ (fun h1=>?_) (fun h1=>?_)
 .exact dw h (Keep.refl hw) (by simp[pm.rT,h1])
 .exact dw h (Keep.refl hw) (by simp[pm.rT,h1])
theorem Ol{a b:Int}(hw:Wf m)(h:∀m',Keep m m'->Q (.tuple #[.int .i64 (pm.rM a b).1,.bool (pm.rM a b).2]) m'):ah cx wE [.int .i64 a,.int .i64 b] m Q:=by
 apply EA;unfold BV dQ;dsimp only;refine oP hw fun m1 k1=>⟨_,rfl,?_⟩
 refine dM (fun h1=>?_) (fun h1=>?_)
 .exact dw h k1 (by simp[pm.rM,h1])
 refine oP k1.wf fun m2 k2=>⟨_,rfl,?_⟩
 refine dM (fun h2=>?_) (fun h2=>?_)
 .exact dw h (k1.trans k2) (by simp[pm.rM,h1,h2])
 refine Gu k2.wf fun m3 k3=>⟨_,_,rfl,?_⟩
 exact dw h ((k1.trans k2).trans k3) (by simp[pm.rM,h1,h2])
theorem HP{x b:Int}(h:pm.rT x 1 b=true):x≠0:=by
 unfold pm.rT at h;simp only[Bool.and_eq_true,gh]at h;omega
theorem KN{a b c:Int}(hw:Wf m)(h:∀m',Keep m m'->Q (.tuple #[.int .i64 (pm.mX a b c).1,.bool (pm.mX a b c).2]) m'):ah cx tG [.int .i64 a,.int .i64 b,.int .i64 c] m Q:=by
 apply BW;unfold yw dQ;dsimp only;refine BU hw fun m1 k1=>⟨_,rfl,?_⟩
 refine dM (fun h1=>?_) (fun h1=>?_)
 .exact dw h k1 (by simp[pm.mX,h1])
 refine BU k1.wf fun m2 k2=>⟨_,rfl,?_⟩
 refine dM (fun h2=>?_) (fun h2=>?_)
 .exact dw h (k1.trans k2) (by simp[pm.mX,h1,h2])
 refine BU k2.wf fun m3 k3=>⟨_,rfl,?_⟩
 refine dM (fun h3=>?_) (fun h3=>?_)
 .exact dw h ((k1.trans k2).trans k3) (by simp[pm.mX,h1,h2,h3])
 .exact⟨HP h2,dw h ((k1.trans k2).trans k3) (by simp[pm.mX,h1,h2,h3])⟩
theorem Pu{a b c:Int}(hw:Wf m)(h:∀m',Keep m m'->Q (.tuple #[.int .i64 (pm.jW a b c).1,.bool (pm.jW a b c).2]) m'):ah cx yx [.int .i64 a,.int .i64 b,.int .i64 c] m Q:=by
 apply Gw;unfold DV dQ;dsimp only;refine oP hw fun m1 k1=>⟨_,rfl,?_⟩
 refine dM (fun h1=>?_) (fun h1=>?_)
 .exact dw h k1 (by simp[pm.jW,h1])
 refine oP k1.wf fun m2 k2=>⟨_,rfl,?_⟩
 refine dM (fun h2=>?_) (fun h2=>?_)
 .exact dw h (k1.trans k2) (by simp[pm.jW,h1,h2])
 refine BU k2.wf fun m3 k3=>⟨_,rfl,?_⟩
 have k:=(k1.trans k2).trans k3;refine dM (fun h3=>?_) (fun h3=>?_)
 .exact dw h k (by simp[pm.jW,h1,h2,h3])
 refine cJ (fun h4=>?_) (fun h4=>?_)
 .exact dw h k (by simp[pm.jW,h1,h2,h3,h4])
 refine⟨HP h3,Gu k3.wf fun m4 k4=>⟨_,_,rfl,?_⟩⟩;exact dw h (k.trans k4) (by simp[pm.jW,h1,h2,h3,h4])
theorem HQ{q p:Int}(hw:Wf m)(h:∀m',Keep m m'->Q (.bool (pm.pair q p)) m'):ah cx sy [.int .i64 q,.int .i64 p] m Q:=by
 apply EB;unfold BX;refine cJ (fun h1=>cJ (fun h2=>cJ (fun h3=>?_) (fun h3=>?_)) (fun h2=>?_)) (fun h1=>?_)
 .exact dw h (Keep.refl hw) (by simp[pm.pair,h1,h2,h3])
 .exact dw h (Keep.refl hw) (by simp[pm.pair,h1,h2,h3])
 .exact dw h (Keep.refl hw) (by simp[pm.pair,h1,h2])
 .exact dw h (Keep.refl hw) (by simp[pm.pair,h1])
theorem Of{q p:Int}(hw:Wf m)(h:∀m',Keep m m'->Q (.tuple #[Az (pm.ge q p).1,.int .i64 (pm.ge q p).2]) m'):ah cx yy [.int .i64 q,.int .i64 p] m Q:=by
 apply Gx;unfold DW;refine HQ hw.bump fun m1 k1=>⟨_,rfl,?_⟩
 have k:=(Keep.refl hw).bump.trans k1;refine dM (fun h1=>?_) (fun h1=>?_)
 .exact dw h k (by simp[pm.ge,h1])
 .exact dw h k (by simp[pm.ge,h1])
theorem tH{q p b d mo:Int}(hw:Wf m)(h:∀m',Keep m m'->Q (.bool (pm.jO ⟨q,p,b,d,mo⟩)) m'):ah cx lP [.agg #[.int .i64 q,.int .i64 p,.int .i64 b,.int .i64 d,.int .i64 mo]] m Q:=by
 apply EC;unfold BY;refine HQ hw.bump fun m1 k1=>⟨_,rfl,?_⟩
 have k:=(Keep.refl hw).bump.trans k1;refine cJ (fun h1=>cJ (fun h2=>cJ (fun h3=>?_) (fun h3=>?_)) (fun h2=>?_)) (fun h1=>?_)
 .refine oP k1.wf fun m2 k2=>⟨_,rfl,?_⟩
  have k:=k.trans k2;refine cJ (fun h4=>cJ (fun h5=>cJ (fun h6=>cJ (fun h7=>?_) (fun h7=>?_)) (fun h6=>?_)) (fun h5=>?_)) (fun h4=>?_)
  .exact dw h k (by simp[pm.jO,h1,h2,h3,h4,h5,h6,h7])
  .exact dw h k (by simp[pm.jO,h1,h2,h3,h4,h5,h6,h7])
  .exact dw h k (by simp[pm.jO,h1,h2,h3,h4,h5,h6])
  .exact dw h k (by simp[pm.jO,h1,h2,h3,h4,h5])
  .exact dw h k (by simp[pm.jO,h1,h2,h3,h4])
 .exact dw h k (by simp[pm.jO,h1,h2,h3])
 .exact dw h k (by simp[pm.jO,h1,h2])
 .exact dw h k (by simp[pm.jO,h1])
theorem rq{q p b d mo:Int}(hw:Wf m)(h:∀m',Keep m m'->Q (Az (pm.iT ⟨q,p,b,d,mo⟩)) m'):ah cx ml [.agg #[.int .i64 q,.int .i64 p,.int .i64 b,.int .i64 d,.int .i64 mo]] m Q:=by
 apply CS;unfold zS;refine cJ (fun h1=>?_) (fun h1=>?_)
 .exact dw h (Keep.refl hw).bump (by simp[pm.iT,h1])
 .exact dw h (Keep.refl hw).bump (by simp[pm.iT,h1])
theorem HR{q p b d mo x:Int}(hw:Wf m)(h:∀m',Keep m m'->Q (.tuple #[Az (pm.dI ⟨q,p,b,d,mo⟩ x).1,.int .i64 (pm.dI ⟨q,p,b,d,mo⟩ x).2]) m'):ah cx uw [.agg #[.int .i64 q,.int .i64 p,.int .i64 b,.int .i64 d,.int .i64 mo],.int .i64 x] m Q:=by
 apply Gy;unfold DX dQ;dsimp only;refine tH hw.bump fun m1 k1=>⟨_,rfl,?_⟩
 have k:=(Keep.refl hw).bump.trans k1;refine dM (fun h1=>?_) (fun h1=>?_)
 .rw[eC];exact dw h k (by simp[pm.dI,h1])
 refine cJ (fun h2=>?_) (fun h2=>?_)
 .rw[eC];exact dw h k (by simp[pm.dI,h1,h2])
 refine cJ (fun h3=>?_) (fun h3=>?_)
 .exact dw h k (by simp[pm.dI,h1,h2,h3])
 .refine gg (fun h4=>?_) (fun h4=>?_)
  .have h4:=ju.2 h4;exact dw h k (by simp[pm.dI,h1,h2,h3,h4])
  .have h4:=fH.2 h4;refine rq k1.wf fun m2 k2=>⟨_,_,_,_,_,rfl,?_⟩
   exact dw h (k.trans k2) (by simp[pm.dI,h1,h2,h3,h4])
theorem ME{q p b d mo:Int}(hw:Wf m)(h:∀m',Keep m m'->Q (.tuple #[Az (pm.fG ⟨q,p,b,d,mo⟩).1,.int .i64 (pm.fG ⟨q,p,b,d,mo⟩).2]) m'):ah cx wF [.agg #[.int .i64 q,.int .i64 p,.int .i64 b,.int .i64 d,.int .i64 mo]] m Q:=by
 apply ED;unfold BZ;refine tH hw.bump fun m1 k1=>⟨_,rfl,?_⟩
 have k:=(Keep.refl hw).bump.trans k1;refine dM (fun h1=>?_) (fun h1=>cJ (fun h2=>?_) (fun h2=>?_))
 .exact dw h k (by simp[pm.fG,h1])
 .exact dw h k (by simp[pm.fG,h1,h2])
 .exact dw h k (by simp[pm.fG,h1,h2])
theorem MF{q p b d mo:Int}(hw:Wf m)(h:∀m',Keep m m'->Q (.tuple #[Az (pm.eP ⟨q,p,b,d,mo⟩).1,.int .i64 (pm.eP ⟨q,p,b,d,mo⟩).2]) m'):ah cx wG [.agg #[.int .i64 q,.int .i64 p,.int .i64 b,.int .i64 d,.int .i64 mo]] m Q:=by
 apply EE;unfold B0;refine tH hw.bump fun m1 k1=>⟨_,rfl,?_⟩
 have k:=(Keep.refl hw).bump.trans k1;refine dM (fun h1=>?_) (fun h1=>cJ (fun h2=>?_) (fun h2=>?_))
 .exact dw h k (by simp[pm.eP,h1])
 .exact dw h k (by simp[pm.eP,h1,h2])
 .exact dw h k (by simp[pm.eP,h1,h2])
theorem MG{q p b d mo x:Int}(hw:Wf m)(h:∀m',Keep m m'->Q (.tuple #[Az (pm.dE ⟨q,p,b,d,mo⟩ x).1,.bool (pm.dE ⟨q,p,b,d,mo⟩ x).2]) m'):ah cx sA [.agg #[.int .i64 q,.int .i64 p,.int .i64 b,.int .i64 d,.int .i64 mo],.int .i64 x] m Q:=by
 apply EF;unfold B1 dQ;dsimp only;refine tH hw.bump fun m1 k1=>⟨_,rfl,?_⟩
 have k:=(Keep.refl hw).bump.trans k1;refine dM (fun h1=>?_) (fun h1=>?_)
 .rw[eC];exact dw h k (by simp[pm.dE,h1])
 refine cJ (fun h2=>?_) (fun h2=>?_)
 .rw[eC];exact dw h k (by simp[pm.dE,h1,h2])
 refine cJ (fun h3=>?_) (fun h3=>?_)
 .exact dw h k (by simp[pm.dE,h1,h2,h3])
 refine Pu k1.wf fun m2 k2=>⟨_,_,rfl,?_⟩
 have k:=k.trans k2;refine dM (fun h4=>?_) (fun h4=>?_)
 .exact dw h k (by simp[pm.dE,h1,h2,h3,h4])
 refine rq k2.wf fun m3 k3=>⟨_,_,_,_,_,rfl,?_⟩
 exact dw h (k.trans k3) (by simp[pm.dE,h1,h2,h3,h4])
theorem MH{q p b d mo x:Int}(hw:Wf m)(h:∀m',Keep m m'->Q (.tuple #[Az (pm.gw ⟨q,p,b,d,mo⟩ x).1,.int .i64 (pm.gw ⟨q,p,b,d,mo⟩ x).2]) m'):ah cx wH [.agg #[.int .i64 q,.int .i64 p,.int .i64 b,.int .i64 d,.int .i64 mo],.int .i64 x] m Q:=by
 apply EG;unfold B2 dQ;dsimp only;refine tH hw.bump fun m1 k1=>⟨_,rfl,?_⟩
 have k:=(Keep.refl hw).bump.trans k1;refine dM (fun h1=>?_) (fun h1=>?_)
 .rw[eC];exact dw h k (by simp[pm.gw,h1])
 refine oP k1.wf fun m2 k2=>⟨_,rfl,?_⟩
 have k:=k.trans k2;refine dM (fun h2=>?_) (fun h2=>?_)
 .exact dw h k (by simp[pm.gw,h1,h2])
 refine cJ (fun h3=>?_) (fun h3=>?_)
 .exact dw h k (by simp[pm.gw,h1,h2,h3])
 refine cJ (fun h4=>?_) (fun h4=>?_)
 .refine Ol k2.wf fun m3 k3=>⟨_,_,rfl,?_⟩
  have k:=k.trans k3;refine dM (fun h5=>?_) (fun h5=>?_)
  .exact dw h k (by simp[pm.gw,h1,h2,h3,h4,h5])
  refine rq k3.wf fun m4 k4=>⟨_,_,_,_,_,rfl,?_⟩
  exact dw h (k.trans k4) (by simp[pm.gw,h1,h2,h3,h4,h5])
 .refine cJ (fun h5=>?_) (fun h5=>?_)
  .refine KN k2.wf fun m3 k3=>⟨_,_,rfl,?_⟩
   have k:=k.trans k3;refine rq k3.wf fun m4 k4=>⟨_,_,_,_,_,rfl,?_⟩
   exact dw h (k.trans k4) (by simp[pm.gw,h1,h2,h3,h4,h5])
  .refine rq k2.wf fun m4 k4=>⟨_,_,_,_,_,rfl,?_⟩
   exact dw h (k.trans k4) (by simp[pm.gw,h1,h2,h3,h4,h5])
theorem KO{a b:Int}(hw:Wf m)(h:∀m',Keep m m'->Q (.tuple #[.int .i64 (pm.mY a b).1,.int .i64 (pm.mY a b).2.1,.bool (pm.mY a b).2.2]) m'):ah cx tI [.int .i64 a,.int .i64 b] m Q:=by
 apply B3;unfold yz dQ;dsimp only;have k:=Keep.refl hw;refine cJ (fun h1=>?_) (fun h1=>cJ (fun h2=>?_) (fun h2=>cJ (fun h3=>?_) (fun h3=>cJ (fun h4=>?_) (fun h4=>?_))))
 .rw[eC];exact dw h k (by simp[pm.mY,h1])
 .rw[eC];exact dw h k (by simp[pm.mY,h1,h2])
 .rw[eC];exact dw h k (by simp[pm.mY,h1,h2,h3])
 .exact dw h k (by simp[pm.mY,h1,h2,h3,h4])
 .exact dw h k (by simp[pm.mY,h1,h2,h3,h4])
theorem IY{a b c d:Int}(hw:Wf m)(h:∀m',Keep m m'->Q (.bool (pm.pi a b c d)) m'):ah cx rO [.int .i64 a,.int .i64 b,.int .i64 c,.int .i64 d] m Q:=by
 apply AA;unfold xi;refine KO hw fun m1 k1=>⟨_,_,_,rfl,?_⟩
 refine cJ (fun h1=>cJ (fun h2=>?_) (fun h2=>?_)) (fun h1=>?_)
 .exact dw h k1 (by simp[pm.pi,h1,h2])
 .exact dw h k1 (by simp[pm.pi,h1,h2])
 .exact dw h k1 (by simp[pm.pi,h1])
theorem rs{x:Int}(h:Q (.bool false) m):ah cx gy [.int .i64 x] m Q:=by
 apply nk;unfold ke;rw[Af];exact h
theorem uR{x y:Int}(h:Q (.int .i64 (pl.c2 x y)) m):ah cx hY [.int .i64 x,.int .i64 y] m Q:=by
 apply lQ;unfold iU;refine rs ⟨_,rfl,rs ⟨_,rfl,?_⟩⟩;unfold pl.c2 at h;rw[gi,gi];simp only[fa,gE,dT];exact⟨fun e=>by rw[if_pos e]at h;exact h,fun e=>⟨fun e2=>by rw[if_neg (by omega),if_pos e2]at h;exact h,fun e2=>by rw[if_neg (by omega),if_neg (by omega)]at h;exact h⟩⟩
end
end Go.Proofs.YthpnifigjfplbaaGreat.vc
namespace Go.Proofs.YthpnifigjfplbaaGreat.vc
open Go Go.AX
@[reducible] def M4 (j:pm.Job)(a:Option Addr)(n c:Nat):Value:=.agg #[.int .i64 j.num,.slice a n c,.int .i64 j.at_,.int .i64 j.done]
theorem C0{α : Type}{f:α->Bool}{l:List α}:leI 0 (match l.findIdx? f with|some i=>(i:Int)|none=>-1)=l.any f:=by
 cases h:l.findIdx? f with
 | none=>
  rw[List.findIdx?_eq_none_iff]at h;have:l.any f=false:=List.any_eq_false.2 fun x hx=>by rw[h x hx];simp
  rw[this];simp[leI]
 | some i=>
  obtain⟨hi,h1,_⟩:=List.findIdx?_eq_some_iff_getElem.1 h;have:l.any f=true:=List.any_eq_true.2 ⟨_,List.getElem_mem hi,h1⟩;rw[this];simp[leI]
section
variable {m:Mem}{Q:Value->Mem->Prop}
theorem OE{v:Value}{f:pm.Step->Bool}{a:Option Addr}{n c:Nat}{l:List pm.Step}(hw:Wf m)(ha:Arr encP 2 m a n l)(hn:n<=4611686018427387904)
  (hf:∀x m1 (R:Value->Mem->Prop),Keep m m1->(∀m2,Keep m1 m2->R (.bool (f x)) m2)->jT cx m1 v [.agg #[.int .i64 x.1,.int .i64 x.2]] R)
  (h:∀m',Keep m m'->Q (.int .i64 (match l.findIdx? f with|some i=>(i:Int)|none=>-1)) m'):ah cx it [.slice a n c,v] m Q:=by
 apply pB;unfold lm;refine pD hn (fun k m1=>Keep m m1/\∀j x,j<k->l[j]? = some x->f x=false) ⟨Keep.refl hw,fun j x hj=>by omega⟩ ?_;rintro k m1 hk ⟨k1,hb⟩ I w hI;refine dJ (fun hlt=>?_) (fun hge=>?_)
 .obtain⟨x,hx⟩:=ha.get hlt;refine ha.open hx fun b o hc=>?_
  have hc1:=hc.keep hw k1;refine⟨x.1,hc1 0 _ rfl,x.2,hc1 1 _ rfl,hf x m1 _ k1 fun m2 k2=>⟨_,rfl,cJ (fun h1=>?_) (fun h1=>?_)⟩⟩
  .refine dw h (k1.trans k2) ?_;obtain⟨hlk1,hlk2⟩:=(List.getElem?_eq_some_iff.1 hx);have:l.findIdx? f=some k:=List.findIdx?_eq_some_iff_getElem.2 ⟨hlk1,by rw[hlk2];exact h1,fun j hj=>by rw[hb j _ hj (List.getElem?_eq_getElem (by omega))];simp⟩;rw[this]
  .exact hI m2 hlt ⟨k1.trans k2,fun j y hj hy=>by
    by_cases e:j=k
    .subst e;rw[hx]at hy;cases hy;exact h1
    .exact hb j y (by omega) hy⟩
 .refine dw h k1 ?_;have:l.findIdx? f=none:=List.findIdx?_eq_none_iff.2 fun x hx=>by
   obtain⟨i,hi⟩:=List.getElem?_of_mem hx;have:=(List.getElem?_eq_some_iff.1 hi).1;exact hb i x (by have:=ha.1;omega) hi
  rw[this]
theorem HY{v:Value}{f:pm.Step->Bool}{a:Option Addr}{n c:Nat}{l:List pm.Step}(hw:Wf m)(ha:Arr encP 2 m a n l)(hn:n<=4611686018427387904)
  (hf:∀x m1 (R:Value->Mem->Prop),Keep m m1->(∀m2,Keep m1 m2->R (.bool (f x)) m2)->jT cx m1 v [.agg #[.int .i64 x.1,.int .i64 x.2]] R)
  (h:∀m',Keep m m'->Q (.bool (l.any f)) m'):ah cx fR [.slice a n c,v] m Q:=by
 apply nV;unfold jR;refine OE hw ha hn hf fun m1 k1=>⟨_,rfl,?_⟩
 rw[C0];exact h m1 k1
theorem OF{x y:Int}(hw:Wf m)(h:∀m',Keep m m'->Q (.bool (pm.wn (x,y))) m'):ah cx rQ [.agg #[.int .i64 x,.int .i64 y]] m Q:=by
 apply AL;unfold xm;have k:Keep m (bump m 1):=(Keep.refl hw).bump;refine cJ (fun h1=>?_) (fun h1=>cJ (fun h2=>?_) (fun h2=>cJ (fun h3=>?_) (fun h3=>?_)))
 .exact dw h k (by simp[pm.wn,h1])
 .exact dw h k (by simp[pm.wn,h1,h2])
 .exact dw h k (by simp[pm.wn,h1,h2,h3])
 .exact dw h k (by simp[pm.wn,h1,h2,h3])
theorem AM{a:Option Addr}{n c:Nat}{p:List pm.Step}(hw:Wf m)(ha:Arr encP 2 m a n p)(h:∀m',Keep m m'->Q (.bool (pm.pGood p)) m'):ah cx ox [.slice a n c] m Q:=by
 apply C1;unfold zY;have hl:=ha.1;subst hl;refine cJ (fun h1=>cJ (fun h2=>?_) (fun h2=>?_)) (fun h1=>?_)
 .refine HY (f:=pm.wn) hw ha (by have:=gh.1 h2;simp[aQ]at this;omega) (fun x m1 R k1 hR=>OF k1.wf hR) fun m1 k1=>⟨_,rfl,?_⟩
  exact dw h k1 (by simp[pm.pGood,h1,h2])
 .exact dw h (Keep.refl hw) (by simp[pm.pGood,h1,h2])
 .exact dw h (Keep.refl hw) (by simp[pm.pGood,h1])
theorem D7{p:List pm.Step}(h:pm.pGood p=true):1<=p.length/\p.length<=8:=by
 unfold pm.pGood at h;simp only[Bool.and_eq_true,gh,aQ]at h;omega
theorem M5{a a2:Option Addr}{n c n2 c2:Nat}{p:List pm.Step}(hw:Wf m)(ha:Arr encP 2 m a n p)(h:∀m',Keep m m'->Q (.bool (pm.pR p n2)) m'):ah cx uY [.slice a n c,.slice a2 n2 c2] m Q:=by
 apply C2;unfold zZ;rw[cP];have k0:Keep m (newO m (row [.slice a2 n2 c2] ka false)):=(Keep.refl hw).newO;have hR:Row (newO m (row [.slice a2 n2 c2] ka false)) m.nx [.slice a2 n2 c2] ka false:=Row.newO;generalize newO m (row [.slice a2 n2 c2] ka false)=m0 at k0 hR;have ha0:=ha.keep hw k0;refine AM k0.wf ha0 fun m1 k1=>⟨_,rfl,cJ (fun h1=>?_) (fun h1=>?_)⟩
 .have hR1:=k1.row k0.wf hR;refine HY (f:=fun s=>cS (aQ n2) s.1) k1.wf (ha0.keep k0.wf k1) (by have:=D7 h1;have:=ha.1;omega) (fun x m2 R k2 hRR=>?_) fun m2 k2=>⟨_,rfl,?_⟩
  .show ah cx rP [.agg #[.int .i64 x.1,.int .i64 x.2],.pointer (some ⟨m.nx,0,none⟩)] m2 R;apply AN;unfold xn;rw[cX];refine⟨a2,n2,c2,by rw[Hn,(k2.row k1.wf hR1).rd];rfl,hRR _ (Keep.refl k2.wf).bump⟩
  .exact dw h ((k0.trans k1).trans k2) (by simp[pm.pR,h1])
 .exact dw h (k0.trans k1) (by simp[pm.pR,h1])
theorem HZ{j:pm.Job}{k:Nat}(h:j.at_=(k:Int))(hk:k<j.prog.length):j.prog[k]? = some j.cur:=by
 unfold pm.Job.cur;rw[h,Int.toNat_natCast,List.getD_eq_getElem?_getD,List.getElem?_eq_getElem hk];rfl
theorem M6{num at_ done:Int}{a:Option Addr}{n c:Nat}{p:List pm.Step}(hw:Wf m)(ha:Arr encP 2 m a n p)(h:∀m',Keep m m'->Q (.bool (pm.oC ⟨num,p,at_,done⟩)) m') :
  ah cx wT [.agg #[.int .i64 num,.slice a n c,.int .i64 at_,.int .i64 done]] m Q:=by
 apply EM;unfold Ce dQ;dsimp only;have k0:Keep m (bump m 1):=(Keep.refl hw).bump;have hl:=ha.1;refine cJ (fun h1=>?_) (fun h1=>?_)
 .exact dw h k0 (by simp[pm.oC,h1])
 refine AM k0.wf (ha.keep hw k0) fun m1 k1=>⟨_,rfl,?_⟩
 have k:=k0.trans k1;refine dM (fun h2=>?_) (fun h2=>?_)
 .exact dw h k (by simp[pm.oC,h1,h2])
 refine cJ (fun h3=>?_) (fun h3=>?_)
 .exact dw h k (by simp[pm.oC,h1,h2,h3])
 subst hl;refine cJ (fun h4=>?_) (fun h4=>?_)
 .exact dw h k (by simp[pm.oC,h1,h2,h3,h4])
 refine cJ (fun h5=>?_) (fun h5=>?_)
 .exact dw h k (by simp[pm.oC,h1,h2,h3,h4,h5])
 refine cJ (fun h6=>?_) (fun h6=>?_)
 .exact dw h k (by simp[pm.oC,h1,h2,h3,h4,h5,h6])
 .have g3:=dT.1 h3;have g4:=dT.1 h4;have g6:=dW.1 h6;simp only[aQ]at g4 g6;obtain⟨i,rfl⟩:∃i:Nat,at_=(i:Int):=⟨at_.toNat,by omega⟩
  have hlt:i<p.length:=by omega
  have hx:=HZ (j:=⟨num,p,(i:Int),done⟩) rfl hlt;refine ha.open hx fun b o hc=>?_
  refine⟨_,yK (k.bump (n:=11)) hw (hc 1 _ rfl),?_⟩;exact dw h k.bump (by simp[pm.oC,h1,h2,h3,h4,h5,h6])
theorem tL{num at_ done:Int}{a:Option Addr}{n c:Nat}{p:List pm.Step}(hw:Wf m)(ha:Arr encP 2 m a n p)(h:∀m',Keep m m'->Q (.tuple #[.agg #[.int .i64 (pm.dH ⟨num,p,at_,done⟩).1.1,.int .i64 (pm.dH ⟨num,p,at_,done⟩).1.2],.bool (pm.dH ⟨num,p,at_,done⟩).2]) m') :
  ah cx lW [.agg #[.int .i64 num,.slice a n c,.int .i64 at_,.int .i64 done]] m Q:=by
 apply EN;unfold Cf dQ;dsimp only;have k0:Keep m (bump m 2):=(Keep.refl hw).bump;have hl:=ha.1;refine M6 k0.wf (ha.keep hw k0) fun m1 k1=>⟨_,rfl,?_⟩
 have k:=k0.trans k1;subst hl;refine dM (fun h1=>?_) (fun h1=>?_)
 .rw[eC];exact dw h k (by simp[pm.dH,h1])
 refine cJ (fun h2=>?_) (fun h2=>?_)
 .exact dw h k (by simp[pm.dH,h1,h2])
 .have g:=h1;unfold pm.oC at g;simp only[Bool.and_eq_true,Bool.not_eq_true']at g;obtain⟨_,_,g3,g4,_⟩:=g;have g3:=dT.1 g3;have g4:=dT.1 g4;have g6:=dW.1 h2;simp only[aQ]at g4 g6;obtain⟨i,rfl⟩:∃i:Nat,at_=(i:Int):=⟨at_.toNat,by omega⟩
  have hlt:i<p.length:=by omega
  have hx:=HZ (j:=⟨num,p,(i:Int),done⟩) rfl hlt;refine ha.open hx fun b o hc=>?_
  refine⟨_,yK k hw (hc 0 _ rfl),_,yK k hw (hc 1 _ rfl),?_⟩;exact dw h k (by simp[pm.dH,h1,h2])
theorem H0{num at_ done x:Int}{a:Option Addr}{n c:Nat}{p:List pm.Step}(hw:Wf m)(ha:Arr encP 2 m a n p)
  (h:∀m',Keep m m'->Q (.tuple #[M4 (pm.eV ⟨num,p,at_,done⟩ x).1 a n c,.int .i64 (pm.eV ⟨num,p,at_,done⟩ x).2]) m') :
  ah cx uA [.agg #[.int .i64 num,.slice a n c,.int .i64 at_,.int .i64 done],.int .i64 x] m Q:=by
 apply GC;unfold D8;have k0:Keep m (bump m 2):=(Keep.refl hw).bump;refine tL k0.wf (ha.keep hw k0) fun m1 k1=>⟨_,_,_,rfl,?_⟩
 have k:=(k0.trans k1).bump (n:=1);refine dM (fun h1=>?_) (fun h1=>?_)
 .exact dw h k (by simp[pm.eV,h1])
 .exact dw h k (by simp[pm.eV,h1])
theorem MU{num at_ done:Int}{a:Option Addr}{n c:Nat}{p:List pm.Step}(hw:Wf m)(ha:Arr encP 2 m a n p)
  (h:∀m',Keep m m'->Q (.tuple #[M4 (pm.eI ⟨num,p,at_,done⟩).1 a n c,.bool (pm.eI ⟨num,p,at_,done⟩).2]) m') :
  ah cx wR [.agg #[.int .i64 num,.slice a n c,.int .i64 at_,.int .i64 done]] m Q:=by
 apply EO;unfold Cg dQ;dsimp only;have k0:Keep m (bump m 2):=(Keep.refl hw).bump;refine tL k0.wf (ha.keep hw k0) fun m1 k1=>⟨_,_,_,rfl,?_⟩
 have k:=(k0.trans k1).bump (n:=1);refine dM (fun h1=>?_) (fun h1=>?_)
 .rw[eC];exact dw h k (by simp[pm.eI,h1])
 refine cJ (fun h2=>?_) (fun h2=>?_)
 .exact dw h k (by simp[pm.eI,h1,h2])
 .exact dw h k (by simp[pm.eI,h1,h2])
theorem OG{num:Int}{a:Option Addr}{n c:Nat}{p:List pm.Step}(hw:Wf m)(ha:Arr encP 2 m a n p)(hg:pm.pGood p=true)
  (h:∀m' a' c',Keep m m'->Arr encP 2 m' a' n (pm.pS num p).1.prog∨(pm.pS num p).2=false->(∀b∈blk a',m.nx<=b)->Q (.tuple #[M4 (pm.pS num p).1 (bif (pm.pS num p).2 then a' else none) (bif (pm.pS num p).2 then n else 0) (bif (pm.pS num p).2 then c' else 0),.bool (pm.pS num p).2]) m') :
  ah cx yC [.int .i64 num,.slice a n c] m Q:=by
 apply GD;unfold D9 dQ;dsimp only;have k0:Keep m (bump m 1):=(Keep.refl hw).bump;refine AM k0.wf (ha.keep hw k0) fun m1 k1=>⟨_,rfl,?_⟩
 have k:=k0.trans k1;have hl:=ha.1;refine dM (fun h1=>?_) (fun h1=>?_)
 .rw[hg]at h1;cases h1
 refine cJ (fun h2=>?_) (fun h2=>?_)
 .have:=h m1 none 0 k (.inr (by simp[pm.pS,h1,h2])) (fun b hb=>by cases hb);simpa [pm.pS,h1,h2]using this
 .rw[cP];have k2:Keep m (newO m1 (row [] fU false)):=k.newO;have hb:(newO m1 (row [] fU false)).hp.get m1.nx=some (row [] fU false):=by rw[kw,if_pos rfl]
  generalize newO m1 (row [] fU false)=m2 at k2 hb;have ha2:=ha.keep hw k2;have hlen:=D7 hg;have hap:=rZ (cx:=cx) (t:=vd) (e:=fU) (s:=2) (m:=m2) (n:=0) (k:=n) (c:=0) (ck:=c) (a:=some ⟨m1.nx,0,none⟩) (v:=a) (old:=[]) (new:=p.flatMap encP) (by kernel_rfl)
   (by unfold giveUp;simp only[hb,row]) rfl (by simp) (ha2.first ti (by omega)) (by rw[di ti,hl]) (by
    rw[List.all_eq_true];intro v hv;obtain⟨x,_,hx⟩:=List.mem_flatMap.1 hv;simp[encP]at hx;rcases hx with rfl|rfl<;>rfl) (by omega) (by omega)
  rw[List.nil_append,Nat.zero_add]at hap;refine⟨_,_,_,_,hap,?_⟩;have k3:Keep m (newO m2 (row (p.flatMap encP) fU true)):=k2.newO;have hR:Row (newO m2 (row (p.flatMap encP) fU true)) m2.nx (p.flatMap encP) fU true:=Row.newO;have hA:=Arr.of_row ti hR;rw[hl]at hA;have e1:pm.pS num p=(⟨num,p,0,0⟩,true):=by simp[pm.pS,h1,h2]
  have:=h _ (some ⟨m2.nx,0,none⟩) n k3 (.inl (by rw[e1];exact hA)) (fun b hb=>by simp[blk]at hb;subst hb;exact k2.nx);rw[e1]at this;exact this
end
end Go.Proofs.YthpnifigjfplbaaGreat.vc
