import Derived.Test.YthpnifigjfplbaaGreatRows
import Derived.Test.YthpnifigjfplbaaGreatQP08
import Derived.Test.YthpnifigjfplbaaGreatQP28
import Derived.Test.YthpnifigjfplbaaGreatQP20
import Derived.KernelRfl
set_option linter.unusedVariables false
namespace Go.Proofs.YthpnifigjfplbaaGreat.vc0
open Go Go.AX Go.Proofs.YthpnifigjfplbaaGreat.vc
noncomputable section
def ov:Tr (List Value->Mem->Option (Value×Mem)):=Tr.put .nil fh oH
def cx:Cx:=Cx.of Tryz.prog ov
theorem I1:CxOk Tryz.prog cx:=CxOk.of _ _
theorem Qm:cx.ov.get fh=some oH:=by
 show ov.get _=_;unfold ov;rw[Tr.get_put,if_pos rfl]
theorem HU{k:FuncId}{f:List Value->Mem->Option (Value×Mem)}(h:cx.ov.get k=some f):f=oH:=by
 have h:ov.get k=some f:=h;unfold ov at h;rw[Tr.get_put]at h;split at h
 .exact(Option.some.inj h).symm
 .rw[Tr.get_nil]at h;cases h
theorem dm:nO cx:=fun k f h a u r u' e E m hb=>by
 have:=HU h;subst this;exact LF e E m hb
theorem dh:mr cx:=fun k f h a u r u' e hw=>by
 have:=HU h;subst this;exact JD e hw
theorem iZ:Tryz.prog.follows .mixedOrders=true:=by kernel_rfl
theorem PD[Kap]:jN Tryz.prog fh oH:=
 OZ (fn:=Tryz.f125) (t:=cO) (tb:=GA) (e:=dr) (s:=11) Tryz.func125 (by kernel_rfl) (by kernel_rfl) (by kernel_rfl) (by kernel_rfl) Tryz.underlying23 Tryz.sizeOf78
theorem I2[Kap]:oI Tryz.prog cx:=fun k f h=>
 O3 (P:=Tryz.prog) (k:=fh) (f:=oH) (t:=Tr.nil) O4 PD k f h
end
end Go.Proofs.YthpnifigjfplbaaGreat.vc0
namespace Go.Proofs.YthpnifigjfplbaaGreat.vc0
open Go Go.AX Go.Proofs.YthpnifigjfplbaaGreat.vc
set_option maxRecDepth 100000
noncomputable section
def ke(a:Int)(m:Mem)(Q:Value->Mem->Prop):Prop:=
 Q (.bool (dV a a)) m
theorem nr{a:Int}{m:Mem}{Q:Value->Mem->Prop}(h:ke a m Q):ah cx gy [.int .i64 a] m Q:=
 ah.of (fn:=Tryz.f143) (LS:=[]) (ann:=[]) dm dh (by kernel_rfl) (by kernel_rfl) (Eq.mp (by kernel_rfl) h)
def rV(a:Int)(m:Mem)(Q:Value->Mem->Prop):Prop:=
 Q (.bool (dV a a)) m
theorem wO{a:Int}{m:Mem}{Q:Value->Mem->Prop}(h:rV a m Q):ah cx kO [.int .i64 a] m Q:=
 ah.of (fn:=Tryz.f195) (LS:=[]) (ann:=[]) dm dh (by kernel_rfl) (by kernel_rfl) (Eq.mp (by kernel_rfl) h)
def iV(c d:Int)(m:Mem)(Q:Value->Mem->Prop):Prop:=
 ah cx gy [.int .i64 c] m fun f i=>∃e,f=(.bool e)/\(ah cx gy [.int .i64 d] i fun g a=>∃b,g=(.bool b)/\splitB e (splitB b (Q (.int .i64 0) a) (Q (.int .i64 (-1:Int)) a)) (splitB b (Q (.int .i64 1) a) (splitB (cR c d) (Q (.int .i64 (-1:Int)) a) (splitB (cR d c) (Q (.int .i64 1) a) (Q (.int .i64 0) a)))))
theorem lQ{c d:Int}{m:Mem}{Q:Value->Mem->Prop}(h:iV c d m Q):ah cx hY [.int .i64 c,.int .i64 d] m Q:=
 ah.of (fn:=Tryz.f106) (LS:=[]) (ann:=[]) dm dh (by kernel_rfl) (by kernel_rfl) (Eq.mp (by kernel_rfl) h)
def ql(c d:Int)(m:Mem)(Q:Value->Mem->Prop):Prop:=
 ah cx kO [.int .i64 c] m fun f i=>∃e,f=(.bool e)/\(ah cx kO [.int .i64 d] i fun g a=>∃b,g=(.bool b)/\splitB e (splitB b (Q (.int .i64 0) a) (Q (.int .i64 (-1:Int)) a)) (splitB b (Q (.int .i64 1) a) (splitB (cR c d) (Q (.int .i64 (-1:Int)) a) (splitB (cR d c) (Q (.int .i64 1) a) (Q (.int .i64 0) a)))))
theorem uX{c d:Int}{m:Mem}{Q:Value->Mem->Prop}(h:ql c d m Q):ah cx my [.int .i64 c,.int .i64 d] m Q:=
 ah.of (fn:=Tryz.f181) (LS:=[]) (ann:=[]) dm dh (by kernel_rfl) (by kernel_rfl) (Eq.mp (by kernel_rfl) h)
def yE(l:Option Addr)(j n:Nat)(m:Mem)(Q:Value->Mem->Prop):Prop:=
 ∃c:Int->Mem->Nat->Prop,(∃i:Nat,c 0 m i)/\∀a b e,c a b e->splitB (cR a (aQ j)) ((0<=a/\a<((j:Nat):Int))/\(da l fun k g=>∃d,rd b k (g+Int.toNat a*1)=some (.int .i64 d)/\splitB (dV d 0) (Q (.int .i64 d) b) (∃f:Nat,f<e/\c (bh .i64 a 1) b f))) (Q (.int .i64 0) b)
theorem B7{l:Option Addr}{j n:Nat}{m:Mem}{Q:Value->Mem->Prop}(h:yE l j n m Q):ah cx tL [.slice l j n] m Q:=
 ah.of (fn:=Tryz.f180) (LS:=[]) (ann:=[none,none,none,none,some ⟨[3,6,7],[(8,.int .i64)],[],[],[],0⟩]) dm dh (by kernel_rfl) (by kernel_rfl) (Eq.mp (by kernel_rfl) h)
def xp(l o n p:Int)(r q:Bool)(m:Mem)(Q:Value->Mem->Prop):Prop:=
 ah cx my [.int .i64 o,.int .i64 p] (setFl (bump m 15) (bump m 2).nx) fun g f=>∃a,g=(.int .i64 a)/\(ah cx hY [.int .i64 l,.int .i64 n] (setFl f (bump m 15).fl) fun i e=>∃c,i=(.int .i64 c)/\(ah cx tL [.slice (some ⟨((bump m 2).nx+10),0,none⟩) 2 2] (addO e ((bump m 2).nx+10) (row [.int .i64 a,.int .i64 c] t_int false)) fun j d=>∃b,j=(.int .i64 b)/\(cZ d fun k=>Q (.int .i64 b) k)))
theorem AC{l o n p:Int}{r q:Bool}{m:Mem}{Q:Value->Mem->Prop}(h:xp l o n p r q m Q):ah cx oC [.agg #[.int .i64 l,.int .i64 o,.bool r],.agg #[.int .i64 n,.int .i64 p,.bool q]] m Q:=
 ah.of (fn:=Tryz.f166) (LS:=[2,3]) (ann:=[]) dm dh (by kernel_rfl) (by kernel_rfl) (Eq.mp (by kernel_rfl) h)
def xq(l o n p:Int)(f d:Bool)(m:Mem)(Q:Value->Mem->Prop):Prop:=
 dN (fun(i:Mem)=>ah cx oC [.agg #[.int .i64 l,.int .i64 o,.bool f],.agg #[.int .i64 n,.int .i64 p,.bool d]] i fun j g=>∃b,j=(.int .i64 b)/\Q (.int .i64 b) g) fun c=>dN (fun(k:Bool) (a:Mem)=>splitB k (Q (.int .i64 (-1:Int)) a) (splitB d (splitB (!f) (Q (.int .i64 1) a) (c a)) (c a))) fun e=>splitB f (e (!d) (bump m 2)) (e false (bump m 2))
theorem AE{l o n p:Int}{f d:Bool}{m:Mem}{Q:Value->Mem->Prop}(h:xq l o n p f d m Q):ah cx fq [.agg #[.int .i64 l,.int .i64 o,.bool f],.agg #[.int .i64 n,.int .i64 p,.bool d]] m Q:=
 ah.of (fn:=Tryz.f165) (LS:=[2,3]) (ann:=[none,some ⟨[],[],[(2,0,0),(3,1,0)],[0,1],[],3⟩,some ⟨[],[(5,.bool)],[(2,0,0),(3,1,0)],[0,1],[],2⟩]) dm dh (by kernel_rfl) (by kernel_rfl) (Eq.mp (by kernel_rfl) h)
def qh(g n:Option Addr)(c i a k:Nat)(b:Int)(m:Mem)(Q:Value->Mem->Prop):Prop:=
 ∃au aw ap,cW cx m cO (.slice g c i) (some (.int .i64 b)) none none=some (.slice au aw ap)/\splitB (cU (aQ a) 0) (Q (.slice g c i) m) (splitB (cU b (aQ c)) (∃z S V y,cQ cx m [cO,cO] [.slice g c i,.slice n a k]=some (.slice z S V,y)/\Q (.slice z S V) y) (∃ag,mq cx m [cO] [.slice g c i]=some (.int .i64 ag)/\splitB (cR ag (bh .i64 (aQ c) (aQ a))) (∃M N E,cW cx m cO (.slice g c i) none (some (.int .i64 b)) none=some (.slice M N E)/\∃p l o r,cQ cx m [cO,t_int] [.slice M N E,.int .i64 (cY .i64 (bh .i64 (aQ c) (aQ a)) b)]=some (.slice p l o,r)/\∃F G ad,cW cx r cO (.slice p l o) (some (.int .i64 b)) none none=some (.slice F G ad)/\∃ao q,iC cx r [cO,cO] [.slice F G ad,.slice n a k]=some (.int .i64 ao,q)/\∃W X ac,cW cx (bump q 9) cO (.slice p l o) (some (.int .i64 (bh .i64 b (aQ a)))) none none=some (.slice W X ac)/\∃A w v,cW cx (bump q 9) cO (.slice g c i) (some (.int .i64 b)) none none=some (.slice A w v)/\∃ak Y,iC cx (bump q 9) [cO,cO] [.slice W X ac,.slice A w v]=some (.int .i64 ak,Y)/\Q (.slice p l o) Y) (∃f e d,cW cx m cO (.slice g c i) none (some (.int .i64 (bh .i64 (aQ c) (aQ a)))) none=some (.slice f e d)/\∃D ae u,cW cx m cO (.slice f e d) (some (.int .i64 (bh .i64 b (aQ a)))) none none=some (.slice D ae u)/\(ah cx fh [.slice n a k,.slice D ae u] m fun an j=>∃af,an=(.bool af)/\splitB (!af) (∃C K H,cW cx (bump j 9) cO (.slice f e d) (some (.int .i64 (bh .i64 b (aQ a)))) none none=some (.slice C K H)/\∃Z aa ai,cW cx (bump j 9) cO (.slice f e d) (some (.int .i64 b)) none none=some (.slice Z aa ai)/\∃aj t,iC cx (bump j 9) [cO,cO] [.slice C K H,.slice Z aa ai]=some (.int .i64 aj,t)/\∃I x U,cW cx t cO (.slice f e d) (some (.int .i64 b)) none none=some (.slice I x U)/\∃av T,iC cx t [cO,cO] [.slice I x U,.slice n a k]=some (.int .i64 av,T)/\Q (.slice f e d) T) (∃ab P R,cW cx j cO (.slice f e d) (some (.int .i64 (aQ c))) none none=some (.slice ab P R)/\∃aq s,iC cx j [cO,cO] [.slice ab P R,.slice n a k]=some (.int .i64 aq,s)/\∃O L B,cW cx s cO (.slice f e d) (some (.int .i64 b)) none none=some (.slice O L B)/\(ah cx jQ [.slice O L B,.int .i64 (aQ a)] s fun al ar=>al=(.tuple #[])/\Q (.slice f e d) ar))))))
theorem oU{g n:Option Addr}{c i a k:Nat}{b:Int}{m:Mem}{Q:Value->Mem->Prop}(h:qh g n c i a k b m Q):ah cx eZ [.slice g c i,.int .i64 b,.slice n a k] m Q:=
 ah.of (fn:=Tryz.f86) (LS:=[]) (ann:=[]) dm dh (by kernel_rfl) (by kernel_rfl) (Eq.mp (by kernel_rfl) h)
end
end Go.Proofs.YthpnifigjfplbaaGreat.vc0
