import Derived.Test.YthpnifigjfplbaaGreatQF31
import Derived.Test.YthpnifigjfplbaaGreatQF01
import Derived.Test.YthpnifigjfplbaaGreatQF19
import Derived.Test.YthpnifigjfplbaaGreatQF21
import Derived.Test.YthpnifigjfplbaaGreatQF29
import Derived.KernelRfl
import Derived.Test.YthpnifigjfplbaaGreatQF24
import Derived.Test.YthpnifigjfplbaaGreatQF22
set_option linter.unusedVariables false
set_option linter.unusedSimpArgs false
namespace Go.Proofs.YthpnifigjfplbaaGreat.vc
open Go Go.AX
noncomputable section
def eZ(x:pl.E):List Value:=[.int .i64 x.1,.int .i64 x.2.1,.bool x.2.2]
def Bz:List Value->Option (List pl.E)
 | []=>some []
 | .int .i64 a::.int .i64 b::.bool c::r=>match Bz r with
  | some l=>some ((a,b,c)::l)
  | none=>none
 | _=>none
theorem Co:∀l:List pl.E,Bz (l.flatMap eZ)=some l
 | []=>rfl
 | (a,b,c)::l=>by
  show (match Bz (l.flatMap eZ)with|some l=>some ((a,b,c)::l)|none=>none)=_;rw[Co l]
theorem Mb{l:List Value}{xs:List pl.E}(h:Bz l=some xs):l=xs.flatMap eZ:=by
 fun_induction Bz l generalizing xs with
 | case1=>cases h;rfl
 | case2 a b c r l hl ih=>
  cases h;rw[ih hl];rfl
 | case3=>cases h
 | case4=>cases h
def zn:List Value->Mem->Option (Value×Mem):=oQ 3 (An eZ Bz pl.srt) [.func (.func fc) #[] #[]]
def vz:List Value->Mem->Option (Value×Mem):=oQ 1 Am []
def Dd:List Value->Mem->Option (Value×Mem):=tC vc0.cx cX eH 11 104
def xp:List (Nat×(List Value->Mem->Option (Value×Mem))):=[(ka,qN),(fC,vz),(eC,zn),(gO,Dd)]
def ov:Tr (List Value->Mem->Option (Value×Mem)):=xp.foldr (fun x t=>t.put x.1 x.2) .nil
def cx:Cx:=Cx.of Tryz.prog ov
theorem G7:CxOk Tryz.prog cx:=CxOk.of _ _
theorem KE:cx.ov.get ka=some qN:=by
 show (xp.foldr (fun x t=>Tr.put t x.1 x.2) .nil).get _=_;simp only[xp,List.foldr_cons,List.foldr_nil,Tr.get_put];rfl
theorem Gc:cx.ov.get fC=some vz:=by
 show (xp.foldr (fun x t=>Tr.put t x.1 x.2) .nil).get _=_;simp only[xp,List.foldr_cons,List.foldr_nil,Tr.get_put];rfl
theorem IV:cx.ov.get eC=some zn:=by
 show (xp.foldr (fun x t=>Tr.put t x.1 x.2) .nil).get _=_;simp only[xp,List.foldr_cons,List.foldr_nil,Tr.get_put];rfl
theorem Gb:cx.ov=xp.foldr (fun x t=>Tr.put t x.1 x.2) .nil:=rfl
theorem Mc:DL zn:=FN
theorem Md:DN zn:=FO
theorem KF:DL vz:=FN
theorem KG:DN vz:=FO
theorem KH:DL Dd:=LE
theorem KI:DN Dd:=LF
theorem dk:mQ cx:=HY Gb fun x hx=>by
 simp only[xp,List.mem_cons,List.not_mem_nil,or_false]at hx;rcases hx with h|h|h|h<;>rw[h]
 .exact JS
 .exact KF
 .exact Mc
 .exact KH
theorem dh:lL cx:=HZ Gb fun x hx=>by
 simp only[xp,List.mem_cons,List.not_mem_nil,or_false]at hx;rcases hx with h|h|h|h<;>rw[h]
 .exact JU
 .exact KG
 .exact Md
 .exact KI
end
end Go.Proofs.YthpnifigjfplbaaGreat.vc
namespace Go.Proofs.YthpnifigjfplbaaGreat.vc
open Go Go.AX
set_option maxRecDepth 100000
noncomputable section
def yC(a:Int)(m:Mem)(Q:Value->Mem->Prop):Prop:=
 splitB (leI 0 a) (Q (.bool (leI a 4611686018427387904)) m) (Q (.bool false) m)
theorem Bv{a:Int}{m:Mem}{Q:Value->Mem->Prop}(h:yC a m Q):ah cx lI [.int .i64 a] m Q:=
 ah.of (fn:=Tryz.f130) (LS:=[]) (ann:=[]) dk dh (by kernel_rfl) (by kernel_rfl) (Eq.mp (by kernel_rfl) h)
def yD(c:Int)(m:Mem)(Q:Value->Mem->Prop):Prop:=
 ah cx lI [.int .i64 c] m fun d b=>∃a,d=(.bool a)/\splitB (!a) (Q (.tuple #[.int .i64 0,.bool false]) b) (Q (.tuple #[.int .i64 c,.bool true]) b)
theorem Bw{c:Int}{m:Mem}{Q:Value->Mem->Prop}(h:yD c m Q):ah cx tK [.int .i64 c] m Q:=
 ah.of (fn:=Tryz.f145) (LS:=[]) (ann:=[]) dk dh (by kernel_rfl) (by kernel_rfl) (Eq.mp (by kernel_rfl) h)
def Ch(a b c:Int)(m:Mem)(Q:Value->Mem->Prop):Prop:=
 splitB (leI b a) (Q (.bool (leI a c)) m) (Q (.bool false) m)
theorem EE{a b c:Int}{m:Mem}{Q:Value->Mem->Prop}(h:Ch a b c m Q):ah cx xl [.int .i64 a,.int .i64 b,.int .i64 c] m Q:=
 ah.of (fn:=Tryz.f144) (LS:=[]) (ann:=[]) dk dh (by kernel_rfl) (by kernel_rfl) (Eq.mp (by kernel_rfl) h)
def Ci(g a b:Int)(m:Mem)(Q:Value->Mem->Prop):Prop:=
 dV (fun(i:Mem)=>splitB (cQ g a) (Q (.tuple #[.int .i64 a,.bool true]) i) (b≠0/\(ah cx tK [.int .i64 (bh .i64 a (io .i64 (bh .i64 (pw .i64 (cZ .i64 g a) b) 1) b))] i fun o s=>∃c f,o=(.tuple #[.int .i64 c,.bool f])/\Q (.tuple #[.int .i64 c,.bool f]) s))) fun q=>ah cx lI [.int .i64 g] m fun r k=>∃d,r=(.bool d)/\splitB (!d) (Q (.tuple #[.int .i64 0,.bool false]) k) (ah cx lI [.int .i64 a] k fun p e=>∃n,p=(.bool n)/\splitB (!n) (Q (.tuple #[.int .i64 0,.bool false]) e) (ah cx xl [.int .i64 b,.int .i64 1,.int .i64 2147483648] e fun t j=>∃l,t=(.bool l)/\splitB (!l) (Q (.tuple #[.int .i64 0,.bool false]) j) (q j)))
theorem EF{g a b:Int}{m:Mem}{Q:Value->Mem->Prop}(h:Ci g a b m Q):ah cx xm [.int .i64 g,.int .i64 a,.int .i64 b] m Q:=
 ah.of (fn:=Tryz.f112) (LS:=[]) (ann:=[none,some ⟨[0,1,2],[],[],[],[],0⟩]) dk dh (by kernel_rfl) (by kernel_rfl) (Eq.mp (by kernel_rfl) h)
def AI(b a:Int)(m:Mem)(Q:Value->Mem->Prop):Prop:=
 splitB (leI 1 a) (splitB (leI a 2147483648) (splitB (leI 1 b) (Q (.bool (leI b a)) m) (Q (.bool false) m)) (Q (.bool false) m)) (Q (.bool false) m)
theorem CS{b a:Int}{m:Mem}{Q:Value->Mem->Prop}(h:AI b a m Q):ah cx vq [.int .i64 b,.int .i64 a] m Q:=
 ah.of (fn:=Tryz.f124) (LS:=[]) (ann:=[]) dk dh (by kernel_rfl) (by kernel_rfl) (Eq.mp (by kernel_rfl) h)
def AJ(j k f l c:Int)(m:Mem)(Q:Value->Mem->Prop):Prop:=
 ah cx vq [.int .i64 j,.int .i64 k] (bump m 1) fun i b=>∃d,i=(.bool d)/\splitB d (splitB (leI 0 f) (splitB (leI f j) (ah cx lI [.int .i64 l] b fun g a=>∃e,g=(.bool e)/\splitB e (splitB (leI 0 c) (splitB (leI c 2) (splitB (dY c 1) (Q (.bool true) a) (Q (.bool (cQ 0 f)) a)) (Q (.bool false) a)) (Q (.bool false) a)) (Q (.bool false) a)) (Q (.bool false) b)) (Q (.bool false) b)) (Q (.bool false) b)
theorem CU{j k f l c:Int}{m:Mem}{Q:Value->Mem->Prop}(h:AJ j k f l c m Q):ah cx mN [.agg #[.int .i64 j,.int .i64 k,.int .i64 f,.int .i64 l,.int .i64 c]] m Q:=
 ah.of (fn:=Tryz.f111) (LS:=[1]) (ann:=[]) dk dh (by kernel_rfl) (by kernel_rfl) (Eq.mp (by kernel_rfl) h)
def yE(d b a c e:Int)(m:Mem)(Q:Value->Mem->Prop):Prop:=
 splitB (cT a 0) (Q (.agg #[.int .i64 d,.int .i64 b,.int .i64 a,.int .i64 c,.int .i64 2]) (bump m 2)) (Q (.agg #[.int .i64 d,.int .i64 b,.int .i64 a,.int .i64 c,.int .i64 1]) (bump m 2))
theorem By{d b a c e:Int}{m:Mem}{Q:Value->Mem->Prop}(h:yE d b a c e m Q):ah cx pR [.agg #[.int .i64 d,.int .i64 b,.int .i64 a,.int .i64 c,.int .i64 e]] m Q:=
 ah.of (fn:=Tryz.f113) (LS:=[1,2]) (ann:=[]) dk dh (by kernel_rfl) (by kernel_rfl) (Eq.mp (by kernel_rfl) h)
def Ck(e i b d a p:Int)(m:Mem)(Q:Value->Mem->Prop):Prop:=
 dV (fun(u:Bool)(g:Mem)=>splitB u (Q (.tuple #[.agg #[.int .i64 e,.int .i64 i,.int .i64 b,.int .i64 d,.int .i64 a],.int .i64 1]) g) (splitB (dY a 1) (Q (.tuple #[.agg #[.int .i64 e,.int .i64 i,.int .i64 b,.int .i64 d,.int .i64 a],.int .i64 4]) g) (ah cx pR [.agg #[.int .i64 e,.int .i64 i,.int .i64 (cZ .i64 b p),.int .i64 d,.int .i64 a]] g fun s t=>∃l n o j k,s=(.agg #[.int .i64 l,.int .i64 n,.int .i64 o,.int .i64 j,.int .i64 k])/\Q (.tuple #[.agg #[.int .i64 l,.int .i64 n,.int .i64 o,.int .i64 j,.int .i64 k],.int .i64 0]) t))) fun c=>ah cx mN [.agg #[.int .i64 e,.int .i64 i,.int .i64 b,.int .i64 d,.int .i64 a]] (bump m 2) fun r f=>∃q,r=(.bool q)/\splitB (!q) (c true f) (splitB (cQ p 1) (c true f) (c (cQ b p) f))
theorem EG{e i b d a p:Int}{m:Mem}{Q:Value->Mem->Prop}(h:Ck e i b d a p m Q):ah cx ti [.agg #[.int .i64 e,.int .i64 i,.int .i64 b,.int .i64 d,.int .i64 a],.int .i64 p] m Q:=
 ah.of (fn:=Tryz.f79) (LS:=[2,4]) (ann:=[none,none,some ⟨[1],[(6,.bool)],[(2,0,0),(4,1,0)],[0,1],[],2⟩]) dk dh (by kernel_rfl) (by kernel_rfl) (Eq.mp (by kernel_rfl) h)
def AK(e c f d a:Int)(m:Mem)(Q:Value->Mem->Prop):Prop:=
 ah cx mN [.agg #[.int .i64 e,.int .i64 c,.int .i64 f,.int .i64 d,.int .i64 a]] (bump m 2) fun i b=>∃g,i=(.bool g)/\splitB (!g) (Q (.tuple #[.agg #[.int .i64 e,.int .i64 c,.int .i64 f,.int .i64 d,.int .i64 a],.int .i64 1]) b) (splitB (cT a 0) (Q (.tuple #[.agg #[.int .i64 e,.int .i64 c,.int .i64 f,.int .i64 d,.int .i64 a],.int .i64 4]) b) (Q (.tuple #[.agg #[.int .i64 e,.int .i64 c,.int .i64 f,.int .i64 d,.int .i64 0],.int .i64 0]) b))
theorem CV{e c f d a:Int}{m:Mem}{Q:Value->Mem->Prop}(h:AK e c f d a m Q):ah cx vt [.agg #[.int .i64 e,.int .i64 c,.int .i64 f,.int .i64 d,.int .i64 a]] m Q:=
 ah.of (fn:=Tryz.f110) (LS:=[1,2]) (ann:=[]) dk dh (by kernel_rfl) (by kernel_rfl) (Eq.mp (by kernel_rfl) h)
def AL(e c f d a:Int)(m:Mem)(Q:Value->Mem->Prop):Prop:=
 ah cx mN [.agg #[.int .i64 e,.int .i64 c,.int .i64 f,.int .i64 d,.int .i64 a]] (bump m 2) fun i b=>∃g,i=(.bool g)/\splitB (!g) (Q (.tuple #[.agg #[.int .i64 e,.int .i64 c,.int .i64 f,.int .i64 d,.int .i64 a],.int .i64 1]) b) (splitB (dY a 1) (Q (.tuple #[.agg #[.int .i64 e,.int .i64 c,.int .i64 f,.int .i64 d,.int .i64 a],.int .i64 4]) b) (Q (.tuple #[.agg #[.int .i64 e,.int .i64 c,.int .i64 f,.int .i64 d,.int .i64 2],.int .i64 0]) b))
theorem CW{e c f d a:Int}{m:Mem}{Q:Value->Mem->Prop}(h:AL e c f d a m Q):ah cx vu [.agg #[.int .i64 e,.int .i64 c,.int .i64 f,.int .i64 d,.int .i64 a]] m Q:=
 ah.of (fn:=Tryz.f115) (LS:=[1,2]) (ann:=[]) dk dh (by kernel_rfl) (by kernel_rfl) (Eq.mp (by kernel_rfl) h)
def AM(c d n b a v:Int)(m:Mem)(Q:Value->Mem->Prop):Prop:=
 dV (fun(u:Bool)(p:Mem)=>splitB u (Q (.tuple #[.agg #[.int .i64 c,.int .i64 d,.int .i64 n,.int .i64 b,.int .i64 a],.bool false]) p) (ah cx xm [.int .i64 v,.int .i64 b,.int .i64 d] p fun y q=>∃o l,y=(.tuple #[.int .i64 o,.bool l])/\splitB (!l) (Q (.tuple #[.agg #[.int .i64 c,.int .i64 d,.int .i64 n,.int .i64 b,.int .i64 a],.bool false]) q) (ah cx pR [.agg #[.int .i64 c,.int .i64 d,.int .i64 c,.int .i64 o,.int .i64 a]] q fun t w=>∃k s g i r,t=(.agg #[.int .i64 k,.int .i64 s,.int .i64 g,.int .i64 i,.int .i64 r])/\Q (.tuple #[.agg #[.int .i64 k,.int .i64 s,.int .i64 g,.int .i64 i,.int .i64 r],.bool true]) w))) fun f=>ah cx mN [.agg #[.int .i64 c,.int .i64 d,.int .i64 n,.int .i64 b,.int .i64 a]] (bump m 2) fun x e=>∃j,x=(.bool j)/\splitB (!j) (f true e) (splitB (cT a 0) (f true e) (f (cQ v b) e))
theorem CX{c d n b a v:Int}{m:Mem}{Q:Value->Mem->Prop}(h:AM c d n b a v m Q):ah cx qW [.agg #[.int .i64 c,.int .i64 d,.int .i64 n,.int .i64 b,.int .i64 a],.int .i64 v] m Q:=
 ah.of (fn:=Tryz.f73) (LS:=[2,4]) (ann:=[none,none,some ⟨[1],[(21,.bool)],[(2,0,0),(4,1,0)],[0,1],[],2⟩]) dk dh (by kernel_rfl) (by kernel_rfl) (Eq.mp (by kernel_rfl) h)
def xn(c b:Int)(m:Mem)(Q:Value->Mem->Prop):Prop:=
 dV (fun(e:Bool)(d:Mem)=>splitB e (Q (.tuple #[.int .i64 0,.int .i64 0,.bool false]) d) (Q (.tuple #[.int .i64 (io .i64 (cZ .i64 c 1) b),.int .i64 (io .i64 c b),.bool true]) d)) fun a=>splitB (cQ c 1) (a true m) (splitB (cQ 64 c) (a true m) (splitB (cQ b 1) (a true m) (a (cQ 1048576 b) m)))
theorem AN{c b:Int}{m:Mem}{Q:Value->Mem->Prop}(h:xn c b m Q):ah cx su [.int .i64 c,.int .i64 b] m Q:=
 ah.of (fn:=Tryz.f146) (LS:=[]) (ann:=[none,none,some ⟨[0,1],[(20,.bool)],[],[],[],0⟩]) dk dh (by kernel_rfl) (by kernel_rfl) (Eq.mp (by kernel_rfl) h)
def vT(j f i g:Int)(m:Mem)(Q:Value->Mem->Prop):Prop:=
 ah cx su [.int .i64 j,.int .i64 f] m fun d a=>∃e b c,d=(.tuple #[.int .i64 e,.int .i64 b,.bool c])/\splitB c (splitB (leI b i) (Q (.bool (leI b g)) a) (Q (.bool false) a)) (Q (.bool false) a)
theorem zk{j f i g:Int}{m:Mem}{Q:Value->Mem->Prop}(h:vT j f i g m Q):ah cx qE [.int .i64 j,.int .i64 f,.int .i64 i,.int .i64 g] m Q:=
 ah.of (fn:=Tryz.f114) (LS:=[]) (ann:=[]) dk dh (by kernel_rfl) (by kernel_rfl) (Eq.mp (by kernel_rfl) h)
def vX(a b:Int)(m:Mem)(Q:Value->Mem->Prop):Prop:=
 splitB (cQ a 0) (Q (.bool true) (bump m 1)) (splitB (cQ 8 a) (Q (.bool true) (bump m 1)) (splitB (cQ b 1) (Q (.bool true) (bump m 1)) (Q (.bool (cQ 2147483648 b)) (bump m 1))))
theorem zv{a b:Int}{m:Mem}{Q:Value->Mem->Prop}(h:vX a b m Q):ah cx qG [.agg #[.int .i64 a,.int .i64 b]] m Q:=
 ah.of (fn:=Tryz.f158) (LS:=[1]) (ann:=[]) dk dh (by kernel_rfl) (by kernel_rfl) (Eq.mp (by kernel_rfl) h)
def kH(r:Option Addr)(n s:Nat)(q:Value)(m:Mem)(Q:Value->Mem->Prop):Prop:=
 ∃c:Int->Mem->Nat->Prop,(∃p:Nat,c 0 m p)/\∀a b g,c a b g->splitB (cQ a (am n)) ((0<=a/\a<((n:Nat):Int))/\(db r fun j i=>∃f,rd b j (i+Int.toNat a*2)=some (.int .i64 f)/\∃e,rd b j (i+Int.toNat a*2+1)=some (.int .i64 e)/\(lH cx b q [.agg #[.int .i64 f,.int .i64 e]] fun o l=>∃d,o=(.bool d)/\splitB d (Q (.int .i64 a) l) (∃k:Nat,k<g/\c (bh .i64 a 1) l k)))) (Q (.int .i64 (-1:Int)) b)
theorem oE{r:Option Addr}{n s:Nat}{q:Value}{m:Mem}{Q:Value->Mem->Prop}(h:kH r n s q m Q):ah cx gY [.slice r n s,q] m Q:=
 ah.of (fn:=Tryz.f159) (LS:=[]) (ann:=[none,none,none,some ⟨[0,1,7],[(8,.int .i64)],[],[],[],0⟩]) dk dh (by kernel_rfl) (by kernel_rfl) (Eq.mp (by kernel_rfl) h)
def jD(f:Option Addr)(e d:Nat)(g:Value)(m:Mem)(Q:Value->Mem->Prop):Prop:=
 ah cx gY [.slice f e d,g] m fun b c=>∃a,b=(.int .i64 a)/\Q (.bool (leI 0 a)) c
theorem mX{f:Option Addr}{e d:Nat}{g:Value}{m:Mem}{Q:Value->Mem->Prop}(h:jD f e d g m Q):ah cx gz [.slice f e d,g] m Q:=
 ah.of (fn:=Tryz.f129) (LS:=[]) (ann:=[]) dk dh (by kernel_rfl) (by kernel_rfl) (Eq.mp (by kernel_rfl) h)
def yK(f:Option Addr)(a e:Nat)(m:Mem)(Q:Value->Mem->Prop):Prop:=
 splitB (leI 1 (am a)) (splitB (leI (am a) 8) (ah cx gz [.slice f a e,.func (.func qG) #[] #[]] m fun c d=>∃b,c=(.bool b)/\Q (.bool (!b)) d) (Q (.bool false) m)) (Q (.bool false) m)
theorem BE{f:Option Addr}{a e:Nat}{m:Mem}{Q:Value->Mem->Prop}(h:yK f a e m Q):ah cx tS [.slice f a e] m Q:=
 ah.of (fn:=Tryz.f128) (LS:=[]) (ann:=[]) dk dh (by kernel_rfl) (by kernel_rfl) (Eq.mp (by kernel_rfl) h)
def AY(p b g:Int)(l:Option Addr)(c o:Nat)(m:Mem)(Q:Value->Mem->Prop):Prop:=
 dV (fun(d:Mem)=>splitB (cT b (am c)) (Q (.bool (cT g 0)) d) ((0<=b/\b<((c:Nat):Int))/\(db l fun k i=>∃e,rd (bump d 11) k (i+Int.toNat b*2+1)=some (.int .i64 e)/\Q (.bool (leI g e)) (bump d 11)))) fun j=>splitB (cQ p 1) (Q (.bool false) (bump m 1)) (ah cx tS [.slice l c o] (bump m 1) fun n a=>∃f,n=(.bool f)/\splitB (!f) (Q (.bool false) a) (splitB (cQ b 0) (Q (.bool false) a) (splitB (cQ (am c) b) (Q (.bool false) a) (splitB (cQ g 0) (Q (.bool false) a) (j a)))))
theorem C2{p b g:Int}{l:Option Addr}{c o:Nat}{m:Mem}{Q:Value->Mem->Prop}(h:AY p b g l c o m Q):ah cx vH [.agg #[.int .i64 p,.slice l c o,.int .i64 b,.int .i64 g]] m Q:=
 ah.of (fn:=Tryz.f117) (LS:=[1]) (ann:=[none,some ⟨[],[],[(1,0,0)],[0],[],1⟩]) dk dh (by kernel_rfl) (by kernel_rfl) (Eq.mp (by kernel_rfl) h)
def AZ(q a r:Int)(n:Option Addr)(c p:Nat)(m:Mem)(Q:Value->Mem->Prop):Prop:=
 dV (fun(l:Bool)(b:Mem)=>splitB l (Q (.tuple #[.agg #[.int .i64 0,.int .i64 0],.bool false]) b) ((0<=a/\a<((c:Nat):Int))/\(db n fun g e=>∃i,rd b g (e+Int.toNat a*2)=some (.int .i64 i)/\∃j,rd b g (e+Int.toNat a*2+1)=some (.int .i64 j)/\Q (.tuple #[.agg #[.int .i64 i,.int .i64 j],.bool true]) b))) fun f=>ah cx vH [.agg #[.int .i64 q,.slice n c p,.int .i64 a,.int .i64 r]] (bump m 2) fun o k=>∃d,o=(.bool d)/\splitB (!d) (f true k) (f (cT a (am c)) k)
theorem C3{q a r:Int}{n:Option Addr}{c p:Nat}{m:Mem}{Q:Value->Mem->Prop}(h:AZ q a r n c p m Q):ah cx lq [.agg #[.int .i64 q,.slice n c p,.int .i64 a,.int .i64 r]] m Q:=
 ah.of (fn:=Tryz.f78) (LS:=[1,2]) (ann:=[none,none,some ⟨[],[(14,.bool)],[(1,0,0),(2,1,0)],[0,1],[],2⟩]) dk dh (by kernel_rfl) (by kernel_rfl) (Eq.mp (by kernel_rfl) h)
def Cr(j i a k:Int)(f:Option Addr)(e c:Nat)(m:Mem)(Q:Value->Mem->Prop):Prop:=
 ah cx lq [.agg #[.int .i64 j,.slice f e c,.int .i64 i,.int .i64 a]] (bump m 2) fun l g=>∃n b d,l=(.tuple #[.agg #[.int .i64 n,.int .i64 b],.bool d])/\splitB (!d) (Q (.tuple #[.agg #[.int .i64 j,.slice f e c,.int .i64 i,.int .i64 a],.int .i64 0]) (bump g 1)) (Q (.tuple #[.agg #[.int .i64 j,.slice f e c,.int .i64 i,.int .i64 (bh .i64 a (fN (jA k 0) (cZ .i64 b a)))],.int .i64 (fN (jA k 0) (cZ .i64 b a))]) (bump g 1))
theorem EM{j i a k:Int}{f:Option Addr}{e c:Nat}{m:Mem}{Q:Value->Mem->Prop}(h:Cr j i a k f e c m Q):ah cx tl [.agg #[.int .i64 j,.slice f e c,.int .i64 i,.int .i64 a],.int .i64 k] m Q:=
 ah.of (fn:=Tryz.f80) (LS:=[2,4,6]) (ann:=[]) dk dh (by kernel_rfl) (by kernel_rfl) (Eq.mp (by kernel_rfl) h)
def A0(d k e:Int)(g:Option Addr)(b a:Nat)(m:Mem)(Q:Value->Mem->Prop):Prop:=
 ah cx lq [.agg #[.int .i64 d,.slice g b a,.int .i64 k,.int .i64 e]] (bump m 2) fun o i=>∃p f l,o=(.tuple #[.agg #[.int .i64 p,.int .i64 f],.bool l])/\(dV (fun(n:Bool)(j:Mem)=>splitB n (Q (.tuple #[.agg #[.int .i64 d,.slice g b a,.int .i64 k,.int .i64 e],.bool false]) j) (Q (.tuple #[.agg #[.int .i64 d,.slice g b a,.int .i64 (bh .i64 k 1),.int .i64 0],.bool true]) j)) fun c=>splitB (!l) (c true (bump i 1)) (c (dY e f) (bump i 1)))
theorem C4{d k e:Int}{g:Option Addr}{b a:Nat}{m:Mem}{Q:Value->Mem->Prop}(h:A0 d k e g b a m Q):ah cx vG [.agg #[.int .i64 d,.slice g b a,.int .i64 k,.int .i64 e]] m Q:=
 ah.of (fn:=Tryz.f109) (LS:=[1,2,4]) (ann:=[none,none,none,some ⟨[],[(19,.bool)],[(1,0,0),(2,1,0)],[0,1],[],4⟩]) dk dh (by kernel_rfl) (by kernel_rfl) (Eq.mp (by kernel_rfl) h)
def jM(a:Int)(m:Mem)(Q:Value->Mem->Prop):Prop:=
 Q (.bool (dY a a)) m
theorem mu{a:Int}{m:Mem}{Q:Value->Mem->Prop}(h:jM a m Q):ah cx fZ [.int .i64 a] m Q:=
 ah.of (fn:=Tryz.f143) (LS:=[]) (ann:=[]) dk dh (by kernel_rfl) (by kernel_rfl) (Eq.mp (by kernel_rfl) h)
def iJ(e c:Int)(m:Mem)(Q:Value->Mem->Prop):Prop:=
 ah cx fZ [.int .i64 e] m fun f g=>∃d,f=(.bool d)/\(ah cx fZ [.int .i64 c] g fun i a=>∃b,i=(.bool b)/\splitB d (splitB b (Q (.int .i64 0) a) (Q (.int .i64 (-1:Int)) a)) (splitB b (Q (.int .i64 1) a) (splitB (cQ e c) (Q (.int .i64 (-1:Int)) a) (splitB (cQ c e) (Q (.int .i64 1) a) (Q (.int .i64 0) a)))))
theorem lj{e c:Int}{m:Mem}{Q:Value->Mem->Prop}(h:iJ e c m Q):ah cx gL [.int .i64 e,.int .i64 c] m Q:=
 ah.of (fn:=Tryz.f106) (LS:=[]) (ann:=[]) dk dh (by kernel_rfl) (by kernel_rfl) (Eq.mp (by kernel_rfl) h)
end
end Go.Proofs.YthpnifigjfplbaaGreat.vc
namespace Go.Proofs.YthpnifigjfplbaaGreat.vc
open Go Go.AX
@[reducible] def ED (s:pm.Srv):Value:=.agg #[.int .i64 s.q,.int .i64 s.p,.int .i64 s.bud,.int .i64 s.due,.int .i64 s.mode]
section
variable {m:Mem}{Q:Value->Mem->Prop}
theorem dC{r r':Value}{m m':Mem}(h:∀m',Keep m m'->Q r m')(k:Keep m m')(e:r=r'):Q r' m':=e▸h m' k
theorem vp{x:Int}(hw:Wf m)(h:∀m',Keep m m'->Q (.bool (pm.gF x)) m'):ah cx lI [.int .i64 x] m Q:=by
 apply Bv;unfold yC;refine cO (fun h1=>?_) (fun h1=>?_)
 .exact dC h (Keep.refl hw) (by simp[pm.gF,h1])
 .exact dC h (Keep.refl hw) (by simp[pm.gF,h1])
theorem Ky{x:Int}(hw:Wf m)(h:∀m',Keep m m'->Q (.tuple #[.int .i64 (pm.qO x).1,.bool (pm.qO x).2]) m'):ah cx tK [.int .i64 x] m Q:=by
 apply Bw;unfold yD;refine vp hw fun m1 k1=>⟨_,rfl,?_⟩
 refine fm (fun h1=>?_) (fun h1=>?_)
 .exact dC h k1 (by simp[pm.qO,h1])
 .exact dC h k1 (by simp[pm.qO,h1])
theorem M7{x a b:Int}(hw:Wf m)(h:∀m',Keep m m'->Q (.bool (pm.ue x a b)) m'):ah cx xl [.int .i64 x,.int .i64 a,.int .i64 b] m Q:=by
 apply EE;unfold Ch;refine cO (fun h1=>?_) (fun h1=>?_)
 .exact dC h (Keep.refl hw) (by simp[pm.ue,h1])
 .exact dC h (Keep.refl hw) (by simp[pm.ue,h1])
theorem L9{x b:Int}(h:pm.ue x 1 b=true):x≠0:=by
 unfold pm.ue at h;simp only[Bool.and_eq_true,fU]at h;omega
theorem M8{a b c:Int}(hw:Wf m)(h:∀m',Keep m m'->Q (.tuple #[.int .i64 (pm.jH a b c).1,.bool (pm.jH a b c).2]) m'):ah cx xm [.int .i64 a,.int .i64 b,.int .i64 c] m Q:=by
 apply EF;unfold Ci dV;dsimp only;refine vp hw fun m1 k1=>⟨_,rfl,?_⟩
 refine fm (fun h1=>?_) (fun h1=>?_)
 .exact dC h k1 (by simp[pm.jH,h1])
 refine vp k1.wf fun m2 k2=>⟨_,rfl,?_⟩
 refine fm (fun h2=>?_) (fun h2=>?_)
 .exact dC h (k1.trans k2) (by simp[pm.jH,h1,h2])
 refine M7 k2.wf fun m3 k3=>⟨_,rfl,?_⟩
 have k:=(k1.trans k2).trans k3;refine fm (fun h3=>?_) (fun h3=>?_)
 .exact dC h k (by simp[pm.jH,h1,h2,h3])
 refine cO (fun h4=>?_) (fun h4=>?_)
 .exact dC h k (by simp[pm.jH,h1,h2,h3,h4])
 refine⟨L9 h3,Ky k3.wf fun m4 k4=>⟨_,_,rfl,?_⟩⟩;exact dC h (k.trans k4) (by simp[pm.jH,h1,h2,h3,h4])
theorem Ma{q p:Int}(hw:Wf m)(h:∀m',Keep m m'->Q (.bool (pm.pair q p)) m'):ah cx vq [.int .i64 q,.int .i64 p] m Q:=by
 apply CS;unfold AI;refine cO (fun h1=>cO (fun h2=>cO (fun h3=>?_) (fun h3=>?_)) (fun h2=>?_)) (fun h1=>?_)
 .exact dC h (Keep.refl hw) (by simp[pm.pair,h1,h2,h3])
 .exact dC h (Keep.refl hw) (by simp[pm.pair,h1,h2,h3])
 .exact dC h (Keep.refl hw) (by simp[pm.pair,h1,h2])
 .exact dC h (Keep.refl hw) (by simp[pm.pair,h1])
theorem vr{q p b d mo:Int}(hw:Wf m)(h:∀m',Keep m m'->Q (.bool (pm.ju ⟨q,p,b,d,mo⟩)) m'):ah cx mN [.agg #[.int .i64 q,.int .i64 p,.int .i64 b,.int .i64 d,.int .i64 mo]] m Q:=by
 apply CU;unfold AJ;refine Ma hw.bump fun m1 k1=>⟨_,rfl,?_⟩
 have k:=(Keep.refl hw).bump.trans k1;refine cO (fun h1=>cO (fun h2=>cO (fun h3=>?_) (fun h3=>?_)) (fun h2=>?_)) (fun h1=>?_)
 .refine vp k1.wf fun m2 k2=>⟨_,rfl,?_⟩
  have k:=k.trans k2;refine cO (fun h4=>cO (fun h5=>cO (fun h6=>cO (fun h7=>?_) (fun h7=>?_)) (fun h6=>?_)) (fun h5=>?_)) (fun h4=>?_)
  .exact dC h k (by simp[pm.ju,h1,h2,h3,h4,h5,h6,h7])
  .exact dC h k (by simp[pm.ju,h1,h2,h3,h4,h5,h6,h7])
  .exact dC h k (by simp[pm.ju,h1,h2,h3,h4,h5,h6])
  .exact dC h k (by simp[pm.ju,h1,h2,h3,h4,h5])
  .exact dC h k (by simp[pm.ju,h1,h2,h3,h4])
 .exact dC h k (by simp[pm.ju,h1,h2,h3])
 .exact dC h k (by simp[pm.ju,h1,h2])
 .exact dC h k (by simp[pm.ju,h1])
theorem Cj{q p b d mo:Int}(hw:Wf m)(h:∀m',Keep m m'->Q (ED (pm.iI ⟨q,p,b,d,mo⟩)) m'):ah cx pR [.agg #[.int .i64 q,.int .i64 p,.int .i64 b,.int .i64 d,.int .i64 mo]] m Q:=by
 apply By;unfold yE;refine cO (fun h1=>?_) (fun h1=>?_)
 .exact dC h (Keep.refl hw).bump (by simp[pm.iI,h1])
 .exact dC h (Keep.refl hw).bump (by simp[pm.iI,h1])
theorem Ga{q p b d mo x:Int}(hw:Wf m)(h:∀m',Keep m m'->Q (.tuple #[ED (pm.dB ⟨q,p,b,d,mo⟩ x).1,.int .i64 (pm.dB ⟨q,p,b,d,mo⟩ x).2]) m'):ah cx ti [.agg #[.int .i64 q,.int .i64 p,.int .i64 b,.int .i64 d,.int .i64 mo],.int .i64 x] m Q:=by
 apply EG;unfold Ck dV;dsimp only;refine vr hw.bump fun m1 k1=>⟨_,rfl,?_⟩
 have k:=(Keep.refl hw).bump.trans k1;refine fm (fun h1=>?_) (fun h1=>?_)
 .rw[fg];exact dC h k (by simp[pm.dB,h1])
 refine cO (fun h2=>?_) (fun h2=>?_)
 .rw[fg];exact dC h k (by simp[pm.dB,h1,h2])
 refine cO (fun h3=>?_) (fun h3=>?_)
 .exact dC h k (by simp[pm.dB,h1,h2,h3])
 .refine gR (fun h4=>?_) (fun h4=>?_)
  .have h4:=gS.2 h4;exact dC h k (by simp[pm.dB,h1,h2,h3,h4])
  .have h4:=gq.2 h4;refine Cj k1.wf fun m2 k2=>⟨_,_,_,_,_,rfl,?_⟩
   exact dC h (k.trans k2) (by simp[pm.dB,h1,h2,h3,h4])
theorem Kz{q p b d mo:Int}(hw:Wf m)(h:∀m',Keep m m'->Q (.tuple #[ED (pm.fq ⟨q,p,b,d,mo⟩).1,.int .i64 (pm.fq ⟨q,p,b,d,mo⟩).2]) m'):ah cx vt [.agg #[.int .i64 q,.int .i64 p,.int .i64 b,.int .i64 d,.int .i64 mo]] m Q:=by
 apply CV;unfold AK;refine vr hw.bump fun m1 k1=>⟨_,rfl,?_⟩
 have k:=(Keep.refl hw).bump.trans k1;refine fm (fun h1=>?_) (fun h1=>cO (fun h2=>?_) (fun h2=>?_))
 .exact dC h k (by simp[pm.fq,h1])
 .exact dC h k (by simp[pm.fq,h1,h2])
 .exact dC h k (by simp[pm.fq,h1,h2])
theorem KA{q p b d mo:Int}(hw:Wf m)(h:∀m',Keep m m'->Q (.tuple #[ED (pm.eI ⟨q,p,b,d,mo⟩).1,.int .i64 (pm.eI ⟨q,p,b,d,mo⟩).2]) m'):ah cx vu [.agg #[.int .i64 q,.int .i64 p,.int .i64 b,.int .i64 d,.int .i64 mo]] m Q:=by
 apply CW;unfold AL;refine vr hw.bump fun m1 k1=>⟨_,rfl,?_⟩
 have k:=(Keep.refl hw).bump.trans k1;refine fm (fun h1=>?_) (fun h1=>cO (fun h2=>?_) (fun h2=>?_))
 .exact dC h k (by simp[pm.eI,h1])
 .exact dC h k (by simp[pm.eI,h1,h2])
 .exact dC h k (by simp[pm.eI,h1,h2])
theorem KB{q p b d mo x:Int}(hw:Wf m)(h:∀m',Keep m m'->Q (.tuple #[ED (pm.dw ⟨q,p,b,d,mo⟩ x).1,.bool (pm.dw ⟨q,p,b,d,mo⟩ x).2]) m'):ah cx qW [.agg #[.int .i64 q,.int .i64 p,.int .i64 b,.int .i64 d,.int .i64 mo],.int .i64 x] m Q:=by
 apply CX;unfold AM dV;dsimp only;refine vr hw.bump fun m1 k1=>⟨_,rfl,?_⟩
 have k:=(Keep.refl hw).bump.trans k1;refine fm (fun h1=>?_) (fun h1=>?_)
 .rw[fg];exact dC h k (by simp[pm.dw,h1])
 refine cO (fun h2=>?_) (fun h2=>?_)
 .rw[fg];exact dC h k (by simp[pm.dw,h1,h2])
 refine cO (fun h3=>?_) (fun h3=>?_)
 .exact dC h k (by simp[pm.dw,h1,h2,h3])
 refine M8 k1.wf fun m2 k2=>⟨_,_,rfl,?_⟩
 have k:=k.trans k2;refine fm (fun h4=>?_) (fun h4=>?_)
 .exact dC h k (by simp[pm.dw,h1,h2,h3,h4])
 refine Cj k2.wf fun m3 k3=>⟨_,_,_,_,_,rfl,?_⟩
 exact dC h (k.trans k3) (by simp[pm.dw,h1,h2,h3,h4])
theorem IS{a b:Int}(hw:Wf m)(h:∀m',Keep m m'->Q (.tuple #[.int .i64 (pm.mn a b).1,.int .i64 (pm.mn a b).2.1,.bool (pm.mn a b).2.2]) m'):ah cx su [.int .i64 a,.int .i64 b] m Q:=by
 apply AN;unfold xn dV;dsimp only;have k:=Keep.refl hw;refine cO (fun h1=>?_) (fun h1=>cO (fun h2=>?_) (fun h2=>cO (fun h3=>?_) (fun h3=>cO (fun h4=>?_) (fun h4=>?_))))
 .rw[fg];exact dC h k (by simp[pm.mn,h1])
 .rw[fg];exact dC h k (by simp[pm.mn,h1,h2])
 .rw[fg];exact dC h k (by simp[pm.mn,h1,h2,h3])
 .exact dC h k (by simp[pm.mn,h1,h2,h3,h4])
 .exact dC h k (by simp[pm.mn,h1,h2,h3,h4])
theorem G6{a b c d:Int}(hw:Wf m)(h:∀m',Keep m m'->Q (.bool (pm.og a b c d)) m'):ah cx qE [.int .i64 a,.int .i64 b,.int .i64 c,.int .i64 d] m Q:=by
 apply zk;unfold vT;refine IS hw fun m1 k1=>⟨_,_,_,rfl,?_⟩
 refine cO (fun h1=>cO (fun h2=>?_) (fun h2=>?_)) (fun h1=>?_)
 .exact dC h k1 (by simp[pm.og,h1,h2])
 .exact dC h k1 (by simp[pm.og,h1,h2])
 .exact dC h k1 (by simp[pm.og,h1])
theorem qk{x:Int}(h:Q (.bool false) m):ah cx fZ [.int .i64 x] m Q:=by
 apply mu;unfold jM;rw[yR];exact h
theorem tL{x y:Int}(h:Q (.int .i64 (pl.c2 x y)) m):ah cx gL [.int .i64 x,.int .i64 y] m Q:=by
 apply lj;unfold iJ;refine qk ⟨_,rfl,qk ⟨_,rfl,?_⟩⟩;unfold pl.c2 at h;rw[fM,fM];simp only[eR,gj,dJ];exact⟨fun e=>by rw[if_pos e]at h;exact h,fun e=>⟨fun e2=>by rw[if_neg (by omega),if_pos e2]at h;exact h,fun e2=>by rw[if_neg (by omega),if_neg (by omega)]at h;exact h⟩⟩
end
end Go.Proofs.YthpnifigjfplbaaGreat.vc
namespace Go.Proofs.YthpnifigjfplbaaGreat.vc
open Go Go.AX
@[reducible] def Nl (j:pm.Job)(a:Option Addr)(n c:Nat):Value:=.agg #[.int .i64 j.num,.slice a n c,.int .i64 j.at_,.int .i64 j.done]
theorem BD{α : Type}{f:α->Bool}{l:List α}:leI 0 (match l.findIdx? f with|some i=>(i:Int)|none=>-1)=l.any f:=by
 cases h:l.findIdx? f with
 | none=>
  rw[List.findIdx?_eq_none_iff]at h;have:l.any f=false:=List.any_eq_false.2 fun x hx=>by rw[h x hx];simp
  rw[this];simp[leI]
 | some i=>
  obtain⟨hi,h1,_⟩:=List.findIdx?_eq_some_iff_getElem.1 h;have:l.any f=true:=List.any_eq_true.2 ⟨_,List.getElem_mem hi,h1⟩;rw[this];simp[leI]
section
variable {m:Mem}{Q:Value->Mem->Prop}
theorem Mm{v:Value}{f:pm.Step->Bool}{a:Option Addr}{n c:Nat}{l:List pm.Step}(hw:Wf m)(ha:Arr encP 2 m a n l)(hn:n<=4611686018427387904)
  (hf:∀x m1 (R:Value->Mem->Prop),Keep m m1->(∀m2,Keep m1 m2->R (.bool (f x)) m2)->lH cx m1 v [.agg #[.int .i64 x.1,.int .i64 x.2]] R)
  (h:∀m',Keep m m'->Q (.int .i64 (match l.findIdx? f with|some i=>(i:Int)|none=>-1)) m'):ah cx gY [.slice a n c,v] m Q:=by
 apply oE;unfold kH;refine tq hn (fun k m1=>Keep m m1/\∀j x,j<k->l[j]? = some x->f x=false) ⟨Keep.refl hw,fun j x hj=>by omega⟩ ?_;rintro k m1 hk ⟨k1,hb⟩ I w hI;refine dN (fun hlt=>?_) (fun hge=>?_)
 .obtain⟨x,hx⟩:=ha.get hlt;refine ha.open hx fun b o hc=>?_
  have hc1:=hc.keep hw k1;refine⟨x.1,hc1 0 _ rfl,x.2,hc1 1 _ rfl,hf x m1 _ k1 fun m2 k2=>⟨_,rfl,cO (fun h1=>?_) (fun h1=>?_)⟩⟩
  .refine dC h (k1.trans k2) ?_;obtain⟨hlk1,hlk2⟩:=(List.getElem?_eq_some_iff.1 hx);have:l.findIdx? f=some k:=List.findIdx?_eq_some_iff_getElem.2 ⟨hlk1,by rw[hlk2];exact h1,fun j hj=>by rw[hb j _ hj (List.getElem?_eq_getElem (by omega))];simp⟩;rw[this]
  .exact hI m2 hlt ⟨k1.trans k2,fun j y hj hy=>by
    by_cases e:j=k
    .subst e;rw[hx]at hy;cases hy;exact h1
    .exact hb j y (by omega) hy⟩
 .refine dC h k1 ?_;have:l.findIdx? f=none:=List.findIdx?_eq_none_iff.2 fun x hx=>by
   obtain⟨i,hi⟩:=List.getElem?_of_mem hx;have:=(List.getElem?_eq_some_iff.1 hi).1;exact hb i x (by have:=ha.1;omega) hi
  rw[this]
theorem Mn{v:Value}{f:pm.Step->Bool}{a:Option Addr}{n c:Nat}{l:List pm.Step}(hw:Wf m)(ha:Arr encP 2 m a n l)(hn:n<=4611686018427387904)
  (hf:∀x m1 (R:Value->Mem->Prop),Keep m m1->(∀m2,Keep m1 m2->R (.bool (f x)) m2)->lH cx m1 v [.agg #[.int .i64 x.1,.int .i64 x.2]] R)
  (h:∀m',Keep m m'->Q (.bool (l.any f)) m'):ah cx gz [.slice a n c,v] m Q:=by
 apply mX;unfold jD;refine Mm hw ha hn hf fun m1 k1=>⟨_,rfl,?_⟩
 rw[BD];exact h m1 k1
theorem Mo{x y:Int}(hw:Wf m)(h:∀m',Keep m m'->Q (.bool (pm.uV (x,y))) m'):ah cx qG [.agg #[.int .i64 x,.int .i64 y]] m Q:=by
 apply zv;unfold vX;have k:Keep m (bump m 1):=(Keep.refl hw).bump;refine cO (fun h1=>?_) (fun h1=>cO (fun h2=>?_) (fun h2=>cO (fun h3=>?_) (fun h3=>?_)))
 .exact dC h k (by simp[pm.uV,h1])
 .exact dC h k (by simp[pm.uV,h1,h2])
 .exact dC h k (by simp[pm.uV,h1,h2,h3])
 .exact dC h k (by simp[pm.uV,h1,h2,h3])
theorem KV{a:Option Addr}{n c:Nat}{p:List pm.Step}(hw:Wf m)(ha:Arr encP 2 m a n p)(h:∀m',Keep m m'->Q (.bool (pm.pGood p)) m'):ah cx tS [.slice a n c] m Q:=by
 apply BE;unfold yK;have hl:=ha.1;subst hl;refine cO (fun h1=>cO (fun h2=>?_) (fun h2=>?_)) (fun h1=>?_)
 .refine Mn (f:=pm.uV) hw ha (by have:=fU.1 h2;simp[am]at this;omega) (fun x m1 R k1 hR=>Mo k1.wf hR) fun m1 k1=>⟨_,rfl,?_⟩
  exact dC h k1 (by simp[pm.pGood,h1,h2])
 .exact dC h (Keep.refl hw) (by simp[pm.pGood,h1,h2])
 .exact dC h (Keep.refl hw) (by simp[pm.pGood,h1])
theorem Gi{j:pm.Job}{k:Nat}(h:j.at_=(k:Int))(hk:k<j.prog.length):j.prog[k]? = some j.cur:=by
 unfold pm.Job.cur;rw[h,Int.toNat_natCast,List.getD_eq_getElem?_getD,List.getElem?_eq_getElem hk];rfl
theorem KW{num at_ done:Int}{a:Option Addr}{n c:Nat}{p:List pm.Step}(hw:Wf m)(ha:Arr encP 2 m a n p)(h:∀m',Keep m m'->Q (.bool (pm.nA ⟨num,p,at_,done⟩)) m') :
  ah cx vH [.agg #[.int .i64 num,.slice a n c,.int .i64 at_,.int .i64 done]] m Q:=by
 apply C2;unfold AY dV;dsimp only;have k0:Keep m (bump m 1):=(Keep.refl hw).bump;have hl:=ha.1;refine cO (fun h1=>?_) (fun h1=>?_)
 .exact dC h k0 (by simp[pm.nA,h1])
 refine KV k0.wf (ha.keep hw k0) fun m1 k1=>⟨_,rfl,?_⟩
 have k:=k0.trans k1;refine fm (fun h2=>?_) (fun h2=>?_)
 .exact dC h k (by simp[pm.nA,h1,h2])
 refine cO (fun h3=>?_) (fun h3=>?_)
 .exact dC h k (by simp[pm.nA,h1,h2,h3])
 subst hl;refine cO (fun h4=>?_) (fun h4=>?_)
 .exact dC h k (by simp[pm.nA,h1,h2,h3,h4])
 refine cO (fun h5=>?_) (fun h5=>?_)
 .exact dC h k (by simp[pm.nA,h1,h2,h3,h4,h5])
 refine cO (fun h6=>?_) (fun h6=>?_)
 .exact dC h k (by simp[pm.nA,h1,h2,h3,h4,h5,h6])
 .have g3:=dJ.1 h3;have g4:=dJ.1 h4;have g6:=dP.1 h6;simp only[am]at g4 g6;obtain⟨i,rfl⟩:∃i:Nat,at_=(i:Int):=⟨at_.toNat,by omega⟩
  have hlt:i<p.length:=by omega
  have hx:=Gi (j:=⟨num,p,(i:Int),done⟩) rfl hlt;refine ha.open hx fun b o hc=>?_
  refine⟨_,xy (k.bump (n:=11)) hw (hc 1 _ rfl),?_⟩;exact dC h k.bump (by simp[pm.nA,h1,h2,h3,h4,h5,h6])
theorem sy{num at_ done:Int}{a:Option Addr}{n c:Nat}{p:List pm.Step}(hw:Wf m)(ha:Arr encP 2 m a n p)(h:∀m',Keep m m'->Q (.tuple #[.agg #[.int .i64 (pm.dD ⟨num,p,at_,done⟩).1.1,.int .i64 (pm.dD ⟨num,p,at_,done⟩).1.2],.bool (pm.dD ⟨num,p,at_,done⟩).2]) m') :
  ah cx lq [.agg #[.int .i64 num,.slice a n c,.int .i64 at_,.int .i64 done]] m Q:=by
 apply C3;unfold AZ dV;dsimp only;have k0:Keep m (bump m 2):=(Keep.refl hw).bump;have hl:=ha.1;refine KW k0.wf (ha.keep hw k0) fun m1 k1=>⟨_,rfl,?_⟩
 have k:=k0.trans k1;subst hl;refine fm (fun h1=>?_) (fun h1=>?_)
 .rw[fg];exact dC h k (by simp[pm.dD,h1])
 refine cO (fun h2=>?_) (fun h2=>?_)
 .exact dC h k (by simp[pm.dD,h1,h2])
 .have g:=h1;unfold pm.nA at g;simp only[Bool.and_eq_true,Bool.not_eq_true']at g;obtain⟨_,_,g3,g4,_⟩:=g;have g3:=dJ.1 g3;have g4:=dJ.1 g4;have g6:=dP.1 h2;simp only[am]at g4 g6;obtain⟨i,rfl⟩:∃i:Nat,at_=(i:Int):=⟨at_.toNat,by omega⟩
  have hlt:i<p.length:=by omega
  have hx:=Gi (j:=⟨num,p,(i:Int),done⟩) rfl hlt;refine ha.open hx fun b o hc=>?_
  refine⟨_,xy k hw (hc 0 _ rfl),_,xy k hw (hc 1 _ rfl),?_⟩;exact dC h k (by simp[pm.dD,h1,h2])
theorem Gj{num at_ done x:Int}{a:Option Addr}{n c:Nat}{p:List pm.Step}(hw:Wf m)(ha:Arr encP 2 m a n p)
  (h:∀m',Keep m m'->Q (.tuple #[Nl (pm.eO ⟨num,p,at_,done⟩ x).1 a n c,.int .i64 (pm.eO ⟨num,p,at_,done⟩ x).2]) m') :
  ah cx tl [.agg #[.int .i64 num,.slice a n c,.int .i64 at_,.int .i64 done],.int .i64 x] m Q:=by
 apply EM;unfold Cr;have k0:Keep m (bump m 2):=(Keep.refl hw).bump;refine sy k0.wf (ha.keep hw k0) fun m1 k1=>⟨_,_,_,rfl,?_⟩
 have k:=(k0.trans k1).bump (n:=1);refine fm (fun h1=>?_) (fun h1=>?_)
 .exact dC h k (by simp[pm.eO,h1])
 .exact dC h k (by simp[pm.eO,h1])
theorem KO{num at_ done:Int}{a:Option Addr}{n c:Nat}{p:List pm.Step}(hw:Wf m)(ha:Arr encP 2 m a n p)
  (h:∀m',Keep m m'->Q (.tuple #[Nl (pm.eJ ⟨num,p,at_,done⟩).1 a n c,.bool (pm.eJ ⟨num,p,at_,done⟩).2]) m') :
  ah cx vG [.agg #[.int .i64 num,.slice a n c,.int .i64 at_,.int .i64 done]] m Q:=by
 apply C4;unfold A0 dV;dsimp only;have k0:Keep m (bump m 2):=(Keep.refl hw).bump;refine sy k0.wf (ha.keep hw k0) fun m1 k1=>⟨_,_,_,rfl,?_⟩
 have k:=(k0.trans k1).bump (n:=1);refine fm (fun h1=>?_) (fun h1=>?_)
 .rw[fg];exact dC h k (by simp[pm.eJ,h1])
 refine cO (fun h2=>?_) (fun h2=>?_)
 .exact dC h k (by simp[pm.eJ,h1,h2])
 .exact dC h k (by simp[pm.eJ,h1,h2])
end
end Go.Proofs.YthpnifigjfplbaaGreat.vc
