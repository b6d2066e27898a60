import Derived.Test.YtiehbnmpaeedpaaGreatRows
import Derived.Test.YtiehbnmpaeedpaaGreatQK08
import Derived.Test.YtiehbnmpaeedpaaGreatQK28
import Derived.Test.YtiehbnmpaeedpaaGreatQK20
import Derived.KernelRfl
set_option linter.unusedVariables false
namespace Go.Proofs.YtiehbnmpaeedpaaGreat.vc0
open Go Go.AX Go.Proofs.YtiehbnmpaeedpaaGreat.vc
noncomputable section
def ov:Tr (List Value->Mem->Option (Value×Mem)):=Tr.put .nil fL nC
def cx:Cx:=Cx.of Tryz.prog ov
theorem GP:CxOk Tryz.prog cx:=CxOk.of _ _
theorem Nx:cx.ov.get fL=some nC:=by
 show ov.get _=_;unfold ov;rw[Tr.get_put,if_pos rfl]
theorem FA{k:FuncId}{f:List Value->Mem->Option (Value×Mem)}(h:cx.ov.get k=some f):f=nC:=by
 have h:ov.get k=some f:=h;unfold ov at h;rw[Tr.get_put]at h;split at h
 .exact(Option.some.inj h).symm
 .rw[Tr.get_nil]at h;cases h
theorem eF:mh cx:=fun k f h a u r u' e E m hb=>by
 have:=FA h;subst this;exact Jg e E m hb
theorem ez:lV cx:=fun k f h a u r u' e hw=>by
 have:=FA h;subst this;exact Hi e hw
theorem jz:Tryz.prog.follows .mixedOrders=true:=by kernel_rfl
theorem ML[Kap]:jQ Tryz.prog fL nC:=
 Me (fn:=Tryz.f76) (t:=cJ) (tb:=D9) (e:=eJ) (s:=11) Tryz.func76 (by kernel_rfl) (by kernel_rfl) (by kernel_rfl) (by kernel_rfl) Tryz.underlying25 Tryz.sizeOf47
theorem GQ[Kap]:nD Tryz.prog cx:=fun k f h=>
 Mi (P:=Tryz.prog) (k:=fL) (f:=nC) (t:=Tr.nil) Mj ML k f h
end
end Go.Proofs.YtiehbnmpaeedpaaGreat.vc0
namespace Go.Proofs.YtiehbnmpaeedpaaGreat.vc0
open Go Go.AX Go.Proofs.YtiehbnmpaeedpaaGreat.vc
set_option maxRecDepth 100000
noncomputable section
def kr(a:Int)(m:Mem)(Q:Value->Mem->Prop):Prop:=
 Q (.bool (eX a a)) m
theorem mL{a:Int}{m:Mem}{Q:Value->Mem->Prop}(h:kr a m Q):ah cx gP [.int .i64 a] m Q:=
 ah.of (fn:=Tryz.f116) (LS:=[]) (ann:=[]) eF ez (by kernel_rfl) (by kernel_rfl) (Eq.mp (by kernel_rfl) h)
def qQ(a:Int)(m:Mem)(Q:Value->Mem->Prop):Prop:=
 Q (.bool (eX a a)) m
theorem vd{a:Int}{m:Mem}{Q:Value->Mem->Prop}(h:qQ a m Q):ah cx kO [.int .i64 a] m Q:=
 ah.of (fn:=Tryz.f182) (LS:=[]) (ann:=[]) eF ez (by kernel_rfl) (by kernel_rfl) (Eq.mp (by kernel_rfl) h)
def jp(d e:Int)(m:Mem)(Q:Value->Mem->Prop):Prop:=
 ah cx gP [.int .i64 d] m fun i g=>∃c,i=(.bool c)/\(ah cx gP [.int .i64 e] g fun f a=>∃b,f=(.bool b)/\splitB c (splitB b (Q (.int .i64 0) a) (Q (.int .i64 (-1:Int)) a)) (splitB b (Q (.int .i64 1) a) (splitB (dJ d e) (Q (.int .i64 (-1:Int)) a) (splitB (dJ e d) (Q (.int .i64 1) a) (Q (.int .i64 0) a)))))
theorem lK{d e:Int}{m:Mem}{Q:Value->Mem->Prop}(h:jp d e m Q):ah cx iB [.int .i64 d,.int .i64 e] m Q:=
 ah.of (fn:=Tryz.f69) (LS:=[]) (ann:=[]) eF ez (by kernel_rfl) (by kernel_rfl) (Eq.mp (by kernel_rfl) h)
def pD(d e:Int)(m:Mem)(Q:Value->Mem->Prop):Prop:=
 ah cx kO [.int .i64 d] m fun i g=>∃c,i=(.bool c)/\(ah cx kO [.int .i64 e] g fun f a=>∃b,f=(.bool b)/\splitB c (splitB b (Q (.int .i64 0) a) (Q (.int .i64 (-1:Int)) a)) (splitB b (Q (.int .i64 1) a) (splitB (dJ d e) (Q (.int .i64 (-1:Int)) a) (splitB (dJ e d) (Q (.int .i64 1) a) (Q (.int .i64 0) a)))))
theorem tB{d e:Int}{m:Mem}{Q:Value->Mem->Prop}(h:pD d e m Q):ah cx lY [.int .i64 d,.int .i64 e] m Q:=
 ah.of (fn:=Tryz.f168) (LS:=[]) (ann:=[]) eF ez (by kernel_rfl) (by kernel_rfl) (Eq.mp (by kernel_rfl) h)
def wL(l:Option Addr)(j n:Nat)(m:Mem)(Q:Value->Mem->Prop):Prop:=
 ∃c:Int->Mem->Nat->Prop,(∃g:Nat,c 0 m g)/\∀a b e,c a b e->splitB (dJ a (aQ j)) ((0<=a/\a<((j:Nat):Int))/\(ec l fun i k=>∃d,rd b i (k+Int.toNat a*1)=some (.int .i64 d)/\splitB (eX d 0) (Q (.int .i64 d) b) (∃f:Nat,f<e/\c (aJ .i64 a 1) b f))) (Q (.int .i64 0) b)
theorem An{l:Option Addr}{j n:Nat}{m:Mem}{Q:Value->Mem->Prop}(h:wL l j n m Q):ah cx sw [.slice l j n] m Q:=
 ah.of (fn:=Tryz.f167) (LS:=[]) (ann:=[none,none,none,none,some ⟨[3,6,7],[(8,.int .i64)],[],[],[],0⟩]) eF ez (by kernel_rfl) (by kernel_rfl) (Eq.mp (by kernel_rfl) h)
def vA(n l o p:Int)(r q:Bool)(m:Mem)(Q:Value->Mem->Prop):Prop:=
 ah cx lY [.int .i64 l,.int .i64 p] (setFl (bump m 15) (bump m 2).nx) fun e k=>∃b,e=(.int .i64 b)/\(ah cx iB [.int .i64 n,.int .i64 o] (setFl k (bump m 15).fl) fun d f=>∃a,d=(.int .i64 a)/\(ah cx sw [.slice (some ⟨((bump m 2).nx+10),0,none⟩) 2 2] (addO f ((bump m 2).nx+10) (row [.int .i64 b,.int .i64 a] fg false)) fun g i=>∃c,g=(.int .i64 c)/\(dR i fun j=>Q (.int .i64 c) j)))
theorem yM{n l o p:Int}{r q:Bool}{m:Mem}{Q:Value->Mem->Prop}(h:vA n l o p r q m Q):ah cx nw [.agg #[.int .i64 n,.int .i64 l,.bool r],.agg #[.int .i64 o,.int .i64 p,.bool q]] m Q:=
 ah.of (fn:=Tryz.f149) (LS:=[2,3]) (ann:=[]) eF ez (by kernel_rfl) (by kernel_rfl) (Eq.mp (by kernel_rfl) h)
def vB(n l o p:Int)(f b:Bool)(m:Mem)(Q:Value->Mem->Prop):Prop:=
 eS (fun(i:Mem)=>ah cx nw [.agg #[.int .i64 n,.int .i64 l,.bool f],.agg #[.int .i64 o,.int .i64 p,.bool b]] i fun k g=>∃e,k=(.int .i64 e)/\Q (.int .i64 e) g) fun c=>eS (fun(j:Bool)(a:Mem)=>splitB j (Q (.int .i64 (-1:Int)) a) (splitB b (splitB (!f) (Q (.int .i64 1) a) (c a)) (c a))) fun d=>splitB f (d (!b) (bump m 2)) (d false (bump m 2))
theorem yN{n l o p:Int}{f b:Bool}{m:Mem}{Q:Value->Mem->Prop}(h:vB n l o p f b m Q):ah cx fT [.agg #[.int .i64 n,.int .i64 l,.bool f],.agg #[.int .i64 o,.int .i64 p,.bool b]] m Q:=
 ah.of (fn:=Tryz.f148) (LS:=[2,3]) (ann:=[none,some ⟨[],[],[(2,0,0),(3,1,0)],[0,1],[],3⟩,some ⟨[],[(5,.bool)],[(2,0,0),(3,1,0)],[0,1],[],2⟩]) eF ez (by kernel_rfl) (by kernel_rfl) (Eq.mp (by kernel_rfl) h)
def pz(i k:Option Addr)(b g a p:Nat)(c:Int)(m:Mem)(Q:Value->Mem->Prop):Prop:=
 ∃al ap an,dT cx m cJ (.slice i b g) (some (.int .i64 c)) none none=some (.slice al ap an)/\splitB (dO (aQ a) 0) (Q (.slice i b g) m) (splitB (dO c (aQ b)) (∃ag u O G,dm cx m [cJ,cJ] [.slice i b g,.slice k a p]=some (.slice ag u O,G)/\Q (.slice ag u O) G) (∃E,oK cx m [cJ] [.slice i b g]=some (.int .i64 E)/\splitB (dJ E (aJ .i64 (aQ b) (aQ a))) (∃N W x,dT cx m cJ (.slice i b g) none (some (.int .i64 c)) none=some (.slice N W x)/\∃o n q s,dm cx m [cJ,fg] [.slice N W x,.int .i64 (dY .i64 (aJ .i64 (aQ b) (aQ a)) c)]=some (.slice o n q,s)/\∃P I K,dT cx s cJ (.slice o n q) (some (.int .i64 c)) none none=some (.slice P I K)/\∃aj l,iT cx s [cJ,cJ] [.slice P I K,.slice k a p]=some (.int .i64 aj,l)/\∃H ab Z,dT cx (bump l 9) cJ (.slice o n q) (some (.int .i64 (aJ .i64 c (aQ a)))) none none=some (.slice H ab Z)/\∃B M w,dT cx (bump l 9) cJ (.slice i b g) (some (.int .i64 c)) none none=some (.slice B M w)/\∃ak ad,iT cx (bump l 9) [cJ,cJ] [.slice H ab Z,.slice B M w]=some (.int .i64 ak,ad)/\Q (.slice o n q) ad) (∃e d f,dT cx m cJ (.slice i b g) none (some (.int .i64 (aJ .i64 (aQ b) (aQ a)))) none=some (.slice e d f)/\∃ai U X,dT cx m cJ (.slice e d f) (some (.int .i64 (aJ .i64 c (aQ a)))) none none=some (.slice ai U X)/\(ah cx fL [.slice k a p,.slice ai U X] m fun av j=>∃Y,av=(.bool Y)/\splitB (!Y) (∃ae V v,dT cx (bump j 9) cJ (.slice e d f) (some (.int .i64 (aJ .i64 c (aQ a)))) none none=some (.slice ae V v)/\∃aa F C,dT cx (bump j 9) cJ (.slice e d f) (some (.int .i64 c)) none none=some (.slice aa F C)/\∃aw r,iT cx (bump j 9) [cJ,cJ] [.slice ae V v,.slice aa F C]=some (.int .i64 aw,r)/\∃ac y S,dT cx r cJ (.slice e d f) (some (.int .i64 c)) none none=some (.slice ac y S)/\∃aq z,iT cx r [cJ,cJ] [.slice ac y S,.slice k a p]=some (.int .i64 aq,z)/\Q (.slice e d f) z) (∃T D L,dT cx j cJ (.slice e d f) (some (.int .i64 (aQ b))) none none=some (.slice T D L)/\∃ao t,iT cx j [cJ,cJ] [.slice T D L,.slice k a p]=some (.int .i64 ao,t)/\∃af R A,dT cx t cJ (.slice e d f) (some (.int .i64 c)) none none=some (.slice af R A)/\(ah cx jR [.slice af R A,.int .i64 (aQ a)] t fun au ar=>au=(.tuple #[])/\Q (.slice e d f) ar))))))
theorem nQ{i k:Option Addr}{b g a p:Nat}{c:Int}{m:Mem}{Q:Value->Mem->Prop}(h:pz i k b g a p c m Q):ah cx fF [.slice i b g,.int .i64 c,.slice k a p] m Q:=
 ah.of (fn:=Tryz.f35) (LS:=[]) (ann:=[]) eF ez (by kernel_rfl) (by kernel_rfl) (Eq.mp (by kernel_rfl) h)
end
end Go.Proofs.YtiehbnmpaeedpaaGreat.vc0
