import Derived.Test.YthpnifigjfplbaaGreatRows
import Derived.Test.YthpnifigjfplbaaGreatQU08
import Derived.Test.YthpnifigjfplbaaGreatQU28
import Derived.Test.YthpnifigjfplbaaGreatQU20
import Derived.KernelRfl
set_option linter.unusedVariables false
namespace Go.Proofs.YthpnifigjfplbaaGreat.vc0
open Go Go.AX Go.Proofs.YthpnifigjfplbaaGreat.vc
noncomputable section
def ov:Tr (List Value->Mem->Option (Value×Mem)):=Tr.put .nil fj oW
def cx:Cx:=Cx.of Tryz.prog ov
theorem Jr:CxOk Tryz.prog cx:=CxOk.of _ _
theorem QJ:cx.ov.get fj=some oW:=by
 show ov.get _=_;unfold ov;rw[Tr.get_put,if_pos rfl]
theorem Ik{k:FuncId}{f:List Value->Mem->Option (Value×Mem)}(h:cx.ov.get k=some f):f=oW:=by
 have h:ov.get k=some f:=h;unfold ov at h;rw[Tr.get_put]at h;split at h
 .exact(Option.some.inj h).symm
 .rw[Tr.get_nil]at h;cases h
theorem di:oo cx:=fun k f h a u r u' e E m hb=>by
 have:=Ik h;subst this;exact Ma e E m hb
theorem db:mG cx:=fun k f h a u r u' e hw=>by
 have:=Ik h;subst this;exact J5 e hw
theorem jt:Tryz.prog.follows .mixedOrders=true:=by kernel_rfl
theorem P3[Kap]:jZ Tryz.prog fj oW:=
 Pp (fn:=Tryz.f125) (t:=cP) (tb:=G0) (e:=dr) (s:=11) Tryz.func125 (by kernel_rfl) (by kernel_rfl) (by kernel_rfl) (by kernel_rfl) Tryz.underlying23 Tryz.sizeOf78
theorem Js[Kap]:oX Tryz.prog cx:=fun k f h=>
 Pt (P:=Tryz.prog) (k:=fj) (f:=oW) (t:=Tr.nil) Pu P3 k f h
end
end Go.Proofs.YthpnifigjfplbaaGreat.vc0
namespace Go.Proofs.YthpnifigjfplbaaGreat.vc0
open Go Go.AX Go.Proofs.YthpnifigjfplbaaGreat.vc
set_option maxRecDepth 100000
noncomputable section
def ky(a:Int)(m:Mem)(Q:Value->Mem->Prop):Prop:=
 Q (.bool (dT a a)) m
theorem nF{a:Int}{m:Mem}{Q:Value->Mem->Prop}(h:ky a m Q):ah cx gB [.int .i64 a] m Q:=
 ah.of (fn:=Tryz.f143) (LS:=[]) (ann:=[]) di db (by kernel_rfl) (by kernel_rfl) (Eq.mp (by kernel_rfl) h)
def sy(a:Int)(m:Mem)(Q:Value->Mem->Prop):Prop:=
 Q (.bool (dT a a)) m
theorem xp{a:Int}{m:Mem}{Q:Value->Mem->Prop}(h:sy a m Q):ah cx lg [.int .i64 a] m Q:=
 ah.of (fn:=Tryz.f195) (LS:=[]) (ann:=[]) di db (by kernel_rfl) (by kernel_rfl) (Eq.mp (by kernel_rfl) h)
def jj(d e:Int)(m:Mem)(Q:Value->Mem->Prop):Prop:=
 ah cx gB [.int .i64 d] m fun f i=>∃c,f=(.bool c)/\(ah cx gB [.int .i64 e] i fun g a=>∃b,g=(.bool b)/\splitB c (splitB b (Q (.int .i64 0) a) (Q (.int .i64 (-1:Int)) a)) (splitB b (Q (.int .i64 1) a) (splitB (cR d e) (Q (.int .i64 (-1:Int)) a) (splitB (cR e d) (Q (.int .i64 1) a) (Q (.int .i64 0) a)))))
theorem lY{d e:Int}{m:Mem}{Q:Value->Mem->Prop}(h:jj d e m Q):ah cx ij [.int .i64 d,.int .i64 e] m Q:=
 ah.of (fn:=Tryz.f106) (LS:=[]) (ann:=[]) di db (by kernel_rfl) (by kernel_rfl) (Eq.mp (by kernel_rfl) h)
def qB(d e:Int)(m:Mem)(Q:Value->Mem->Prop):Prop:=
 ah cx lg [.int .i64 d] m fun f i=>∃c,f=(.bool c)/\(ah cx lg [.int .i64 e] i fun g a=>∃b,g=(.bool b)/\splitB c (splitB b (Q (.int .i64 0) a) (Q (.int .i64 (-1:Int)) a)) (splitB b (Q (.int .i64 1) a) (splitB (cR d e) (Q (.int .i64 (-1:Int)) a) (splitB (cR e d) (Q (.int .i64 1) a) (Q (.int .i64 0) a)))))
theorem vF{d e:Int}{m:Mem}{Q:Value->Mem->Prop}(h:qB d e m Q):ah cx mJ [.int .i64 d,.int .i64 e] m Q:=
 ah.of (fn:=Tryz.f181) (LS:=[]) (ann:=[]) di db (by kernel_rfl) (by kernel_rfl) (Eq.mp (by kernel_rfl) h)
def zd(l:Option Addr)(j n:Nat)(m:Mem)(Q:Value->Mem->Prop):Prop:=
 ∃d:Int->Mem->Nat->Prop,(∃i:Nat,d 0 m i)/\∀a b e,d a b e->splitB (cR a (aQ j)) ((0<=a/\a<((j:Nat):Int))/\(cZ l fun k g=>∃c,rd b k (g+Int.toNat a*1)=some (.int .i64 c)/\splitB (dT c 0) (Q (.int .i64 c) b) (∃f:Nat,f<e/\d (bh .i64 a 1) b f))) (Q (.int .i64 0) b)
theorem Cr{l:Option Addr}{j n:Nat}{m:Mem}{Q:Value->Mem->Prop}(h:zd l j n m Q):ah cx uc [.slice l j n] m Q:=
 ah.of (fn:=Tryz.f180) (LS:=[]) (ann:=[none,none,none,none,some ⟨[3,6,7],[(8,.int .i64)],[],[],[],0⟩]) di db (by kernel_rfl) (by kernel_rfl) (Eq.mp (by kernel_rfl) h)
def xQ(o p n l:Int)(r q:Bool)(m:Mem)(Q:Value->Mem->Prop):Prop:=
 ah cx mJ [.int .i64 p,.int .i64 l] (setFl (bump m 15) (bump m 2).nx) fun g i=>∃a,g=(.int .i64 a)/\(ah cx ij [.int .i64 o,.int .i64 n] (setFl i (bump m 15).fl) fun d j=>∃c,d=(.int .i64 c)/\(ah cx uc [.slice (some ⟨((bump m 2).nx+10),0,none⟩) 2 2] (addO j ((bump m 2).nx+10) (row [.int .i64 a,.int .i64 c] t_int false)) fun e f=>∃b,e=(.int .i64 b)/\(cY f fun k=>Q (.int .i64 b) k)))
theorem A2{o p n l:Int}{r q:Bool}{m:Mem}{Q:Value->Mem->Prop}(h:xQ o p n l r q m Q):ah cx oR [.agg #[.int .i64 o,.int .i64 p,.bool r],.agg #[.int .i64 n,.int .i64 l,.bool q]] m Q:=
 ah.of (fn:=Tryz.f166) (LS:=[2,3]) (ann:=[]) di db (by kernel_rfl) (by kernel_rfl) (Eq.mp (by kernel_rfl) h)
def xR(o p n l:Int)(e b:Bool)(m:Mem)(Q:Value->Mem->Prop):Prop:=
 dJ (fun(g:Mem)=>ah cx oR [.agg #[.int .i64 o,.int .i64 p,.bool e],.agg #[.int .i64 n,.int .i64 l,.bool b]] g fun k i=>∃f,k=(.int .i64 f)/\Q (.int .i64 f) i) fun d=>dJ (fun(j:Bool) (a:Mem)=>splitB j (Q (.int .i64 (-1:Int)) a) (splitB b (splitB (!e) (Q (.int .i64 1) a) (d a)) (d a))) fun c=>splitB e (c (!b) (bump m 2)) (c false (bump m 2))
theorem A3{o p n l:Int}{e b:Bool}{m:Mem}{Q:Value->Mem->Prop}(h:xR o p n l e b m Q):ah cx fA [.agg #[.int .i64 o,.int .i64 p,.bool e],.agg #[.int .i64 n,.int .i64 l,.bool b]] m Q:=
 ah.of (fn:=Tryz.f165) (LS:=[2,3]) (ann:=[none,some ⟨[],[],[(2,0,0),(3,1,0)],[0,1],[],3⟩,some ⟨[],[(5,.bool)],[(2,0,0),(3,1,0)],[0,1],[],2⟩]) di db (by kernel_rfl) (by kernel_rfl) (Eq.mp (by kernel_rfl) h)
def qx(g p:Option Addr)(c i a l:Nat)(b:Int)(m:Mem)(Q:Value->Mem->Prop):Prop:=
 ∃au aq av,cX cx m cP (.slice g c i) (some (.int .i64 b)) none none=some (.slice au aq av)/\splitB (cT (aQ a) 0) (Q (.slice g c i) m) (splitB (cT b (aQ c)) (∃R ai T ac,cQ cx m [cP,cP] [.slice g c i,.slice p a l]=some (.slice R ai T,ac)/\Q (.slice R ai T) ac) (∃V,mF cx m [cP] [.slice g c i]=some (.int .i64 V)/\splitB (cR V (bh .i64 (aQ c) (aQ a))) (∃ab G w,cX cx m cP (.slice g c i) none (some (.int .i64 b)) none=some (.slice ab G w)/\∃o k n r,cQ cx m [cP,t_int] [.slice ab G w,.int .i64 (de .i64 (bh .i64 (aQ c) (aQ a)) b)]=some (.slice o k n,r)/\∃z v K,cX cx r cP (.slice o k n) (some (.int .i64 b)) none none=some (.slice z v K)/\∃al q,iK cx r [cP,cP] [.slice z v K,.slice p a l]=some (.int .i64 al,q)/\∃Z M ad,cX cx (bump q 9) cP (.slice o k n) (some (.int .i64 (bh .i64 b (aQ a)))) none none=some (.slice Z M ad)/\∃I S ae,cX cx (bump q 9) cP (.slice g c i) (some (.int .i64 b)) none none=some (.slice I S ae)/\∃aw ag,iK cx (bump q 9) [cP,cP] [.slice Z M ad,.slice I S ae]=some (.int .i64 aw,ag)/\Q (.slice o k n) ag) (∃f e d,cX cx m cP (.slice g c i) none (some (.int .i64 (bh .i64 (aQ c) (aQ a)))) none=some (.slice f e d)/\∃B E O,cX cx m cP (.slice f e d) (some (.int .i64 (bh .i64 b (aQ a)))) none none=some (.slice B E O)/\(ah cx fj [.slice p a l,.slice B E O] m fun aj j=>∃X,aj=(.bool X)/\splitB (!X) (∃A W Y,cX cx (bump j 9) cP (.slice f e d) (some (.int .i64 (bh .i64 b (aQ a)))) none none=some (.slice A W Y)/\∃C F N,cX cx (bump j 9) cP (.slice f e d) (some (.int .i64 b)) none none=some (.slice C F N)/\∃an s,iK cx (bump j 9) [cP,cP] [.slice A W Y,.slice C F N]=some (.int .i64 an,s)/\∃H y U,cX cx s cP (.slice f e d) (some (.int .i64 b)) none none=some (.slice H y U)/\∃ak P,iK cx s [cP,cP] [.slice H y U,.slice p a l]=some (.int .i64 ak,P)/\Q (.slice f e d) P) (∃aa L u,cX cx j cP (.slice f e d) (some (.int .i64 (aQ c))) none none=some (.slice aa L u)/\∃ap t,iK cx j [cP,cP] [.slice aa L u,.slice p a l]=some (.int .i64 ap,t)/\∃x D af,cX cx t cP (.slice f e d) (some (.int .i64 b)) none none=some (.slice x D af)/\(ah cx kf [.slice x D af,.int .i64 (aQ a)] t fun ar ao=>ar=(.tuple #[])/\Q (.slice f e d) ao))))))
theorem pt{g p:Option Addr}{c i a l:Nat}{b:Int}{m:Mem}{Q:Value->Mem->Prop}(h:qx g p c i a l b m Q):ah cx fb [.slice g c i,.int .i64 b,.slice p a l] m Q:=
 ah.of (fn:=Tryz.f86) (LS:=[]) (ann:=[]) di db (by kernel_rfl) (by kernel_rfl) (Eq.mp (by kernel_rfl) h)
end
end Go.Proofs.YthpnifigjfplbaaGreat.vc0
