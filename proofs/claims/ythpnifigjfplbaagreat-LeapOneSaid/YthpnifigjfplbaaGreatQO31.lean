import Derived.Test.YthpnifigjfplbaaGreatRows
import Derived.Test.YthpnifigjfplbaaGreatQO08
import Derived.Test.YthpnifigjfplbaaGreatQO28
import Derived.Test.YthpnifigjfplbaaGreatQO20
import Derived.KernelRfl
set_option linter.unusedVariables false
namespace Go.Proofs.YthpnifigjfplbaaGreat.vc0
open Go Go.AX Go.Proofs.YthpnifigjfplbaaGreat.vc
noncomputable section
def ov:Tr (List Value->Mem->Option (Value×Mem)):=Tr.put .nil fh oI
def cx:Cx:=Cx.of Tryz.prog ov
theorem IZ:CxOk Tryz.prog cx:=CxOk.of _ _
theorem Qg:cx.ov.get fh=some oI:=by
 show ov.get _=_;unfold ov;rw[Tr.get_put,if_pos rfl]
theorem HS{k:FuncId}{f:List Value->Mem->Option (Value×Mem)}(h:cx.ov.get k=some f):f=oI:=by
 have h:ov.get k=some f:=h;unfold ov at h;rw[Tr.get_put]at h;split at h
 .exact(Option.some.inj h).symm
 .rw[Tr.get_nil]at h;cases h
theorem dm:nP cx:=fun k f h a u r u' e E m hb=>by
 have:=HS h;subst this;exact LC e E m hb
theorem de:mr cx:=fun k f h a u r u' e hw=>by
 have:=HS h;subst this;exact JB e hw
theorem iY:Tryz.prog.follows .mixedOrders=true:=by kernel_rfl
theorem Pv[Kap]:jN Tryz.prog fh oI:=
 OT (fn:=Tryz.f125) (t:=cO) (tb:=Gz) (e:=dr) (s:=11) Tryz.func125 (by kernel_rfl) (by kernel_rfl) (by kernel_rfl) (by kernel_rfl) Tryz.underlying23 Tryz.sizeOf78
theorem I0[Kap]:oJ Tryz.prog cx:=fun k f h=>
 OX (P:=Tryz.prog) (k:=fh) (f:=oI) (t:=Tr.nil) OY Pv k f h
end
end Go.Proofs.YthpnifigjfplbaaGreat.vc0
namespace Go.Proofs.YthpnifigjfplbaaGreat.vc0
open Go Go.AX Go.Proofs.YthpnifigjfplbaaGreat.vc
set_option maxRecDepth 100000
noncomputable section
def ke(a:Int)(m:Mem)(Q:Value->Mem->Prop):Prop:=
 Q (.bool (dU a a)) m
theorem nk{a:Int}{m:Mem}{Q:Value->Mem->Prop}(h:ke a m Q):ah cx gy [.int .i64 a] m Q:=
 ah.of (fn:=Tryz.f143) (LS:=[]) (ann:=[]) dm de (by kernel_rfl) (by kernel_rfl) (Eq.mp (by kernel_rfl) h)
def rU(a:Int)(m:Mem)(Q:Value->Mem->Prop):Prop:=
 Q (.bool (dU a a)) m
theorem wI{a:Int}{m:Mem}{Q:Value->Mem->Prop}(h:rU a m Q):ah cx kO [.int .i64 a] m Q:=
 ah.of (fn:=Tryz.f195) (LS:=[]) (ann:=[]) dm de (by kernel_rfl) (by kernel_rfl) (Eq.mp (by kernel_rfl) h)
def iU(c e:Int)(m:Mem)(Q:Value->Mem->Prop):Prop:=
 ah cx gy [.int .i64 c] m fun i f=>∃d,i=(.bool d)/\(ah cx gy [.int .i64 e] f fun g a=>∃b,g=(.bool b)/\splitB d (splitB b (Q (.int .i64 0) a) (Q (.int .i64 (-1:Int)) a)) (splitB b (Q (.int .i64 1) a) (splitB (cS c e) (Q (.int .i64 (-1:Int)) a) (splitB (cS e c) (Q (.int .i64 1) a) (Q (.int .i64 0) a)))))
theorem lQ{c e:Int}{m:Mem}{Q:Value->Mem->Prop}(h:iU c e m Q):ah cx hY [.int .i64 c,.int .i64 e] m Q:=
 ah.of (fn:=Tryz.f106) (LS:=[]) (ann:=[]) dm de (by kernel_rfl) (by kernel_rfl) (Eq.mp (by kernel_rfl) h)
def qj(c e:Int)(m:Mem)(Q:Value->Mem->Prop):Prop:=
 ah cx kO [.int .i64 c] m fun i f=>∃d,i=(.bool d)/\(ah cx kO [.int .i64 e] f fun g a=>∃b,g=(.bool b)/\splitB d (splitB b (Q (.int .i64 0) a) (Q (.int .i64 (-1:Int)) a)) (splitB b (Q (.int .i64 1) a) (splitB (cS c e) (Q (.int .i64 (-1:Int)) a) (splitB (cS e c) (Q (.int .i64 1) a) (Q (.int .i64 0) a)))))
theorem uT{c e:Int}{m:Mem}{Q:Value->Mem->Prop}(h:qj c e m Q):ah cx my [.int .i64 c,.int .i64 e] m Q:=
 ah.of (fn:=Tryz.f181) (LS:=[]) (ann:=[]) dm de (by kernel_rfl) (by kernel_rfl) (Eq.mp (by kernel_rfl) h)
def yA(l:Option Addr)(k n:Nat)(m:Mem)(Q:Value->Mem->Prop):Prop:=
 ∃c:Int->Mem->Nat->Prop,(∃i:Nat,c 0 m i)/\∀a b f,c a b f->splitB (cS a (aQ k)) ((0<=a/\a<((k:Nat):Int))/\(cZ l fun j g=>∃d,rd b j (g+Int.toNat a*1)=some (.int .i64 d)/\splitB (dU d 0) (Q (.int .i64 d) b) (∃e:Nat,e<f/\c (bh .i64 a 1) b e))) (Q (.int .i64 0) b)
theorem B4{l:Option Addr}{k n:Nat}{m:Mem}{Q:Value->Mem->Prop}(h:yA l k n m Q):ah cx tK [.slice l k n] m Q:=
 ah.of (fn:=Tryz.f180) (LS:=[]) (ann:=[none,none,none,none,some ⟨[3,6,7],[(8,.int .i64)],[],[],[],0⟩]) dm de (by kernel_rfl) (by kernel_rfl) (Eq.mp (by kernel_rfl) h)
def xj(l o p n:Int)(r q:Bool)(m:Mem)(Q:Value->Mem->Prop):Prop:=
 ah cx my [.int .i64 o,.int .i64 n] (setFl (bump m 15) (bump m 2).nx) fun k e=>∃a,k=(.int .i64 a)/\(ah cx hY [.int .i64 l,.int .i64 p] (setFl e (bump m 15).fl) fun f d=>∃c,f=(.int .i64 c)/\(ah cx tK [.slice (some ⟨((bump m 2).nx+10),0,none⟩) 2 2] (addO d ((bump m 2).nx+10) (row [.int .i64 a,.int .i64 c] t_int false)) fun j g=>∃b,j=(.int .i64 b)/\(cY g fun i=>Q (.int .i64 b) i)))
theorem AB{l o p n:Int}{r q:Bool}{m:Mem}{Q:Value->Mem->Prop}(h:xj l o p n r q m Q):ah cx oD [.agg #[.int .i64 l,.int .i64 o,.bool r],.agg #[.int .i64 p,.int .i64 n,.bool q]] m Q:=
 ah.of (fn:=Tryz.f166) (LS:=[2,3]) (ann:=[]) dm de (by kernel_rfl) (by kernel_rfl) (Eq.mp (by kernel_rfl) h)
def xk(l o p n:Int)(f b:Bool)(m:Mem)(Q:Value->Mem->Prop):Prop:=
 dQ (fun(i:Mem)=>ah cx oD [.agg #[.int .i64 l,.int .i64 o,.bool f],.agg #[.int .i64 p,.int .i64 n,.bool b]] i fun k g=>∃d,k=(.int .i64 d)/\Q (.int .i64 d) g) fun e=>dQ (fun(j:Bool)(a:Mem)=>splitB j (Q (.int .i64 (-1:Int)) a) (splitB b (splitB (!f) (Q (.int .i64 1) a) (e a)) (e a))) fun c=>splitB f (c (!b) (bump m 2)) (c false (bump m 2))
theorem AC{l o p n:Int}{f b:Bool}{m:Mem}{Q:Value->Mem->Prop}(h:xk l o p n f b m Q):ah cx ft [.agg #[.int .i64 l,.int .i64 o,.bool f],.agg #[.int .i64 p,.int .i64 n,.bool b]] m Q:=
 ah.of (fn:=Tryz.f165) (LS:=[2,3]) (ann:=[none,some ⟨[],[],[(2,0,0),(3,1,0)],[0,1],[],3⟩,some ⟨[],[(5,.bool)],[(2,0,0),(3,1,0)],[0,1],[],2⟩]) dm de (by kernel_rfl) (by kernel_rfl) (Eq.mp (by kernel_rfl) h)
def qf(i p:Option Addr)(b g a o:Nat)(c:Int)(m:Mem)(Q:Value->Mem->Prop):Prop:=
 ∃ak aw av,cW cx m cO (.slice i b g) (some (.int .i64 c)) none none=some (.slice ak aw av)/\splitB (cU (aQ a) 0) (Q (.slice i b g) m) (splitB (cU c (aQ b)) (∃ad Y x ai,cQ cx m [cO,cO] [.slice i b g,.slice p a o]=some (.slice ad Y x,ai)/\Q (.slice ad Y x) ai) (∃X,mq cx m [cO] [.slice i b g]=some (.int .i64 X)/\splitB (cS X (bh .i64 (aQ b) (aQ a))) (∃ac y ae,cW cx m cO (.slice i b g) none (some (.int .i64 c)) none=some (.slice ac y ae)/\∃l n k r,cQ cx m [cO,t_int] [.slice ac y ae,.int .i64 (dk .i64 (bh .i64 (aQ b) (aQ a)) c)]=some (.slice l n k,r)/\∃w ag v,cW cx r cO (.slice l n k) (some (.int .i64 c)) none none=some (.slice w ag v)/\∃ap q,iB cx r [cO,cO] [.slice w ag v,.slice p a o]=some (.int .i64 ap,q)/\∃W M P,cW cx (bump q 9) cO (.slice l n k) (some (.int .i64 (bh .i64 c (aQ a)))) none none=some (.slice W M P)/\∃U V C,cW cx (bump q 9) cO (.slice i b g) (some (.int .i64 c)) none none=some (.slice U V C)/\∃ao I,iB cx (bump q 9) [cO,cO] [.slice W M P,.slice U V C]=some (.int .i64 ao,I)/\Q (.slice l n k) I) (∃f e d,cW cx m cO (.slice i b g) none (some (.int .i64 (bh .i64 (aQ b) (aQ a)))) none=some (.slice f e d)/\∃D u L,cW cx m cO (.slice f e d) (some (.int .i64 (bh .i64 c (aQ a)))) none none=some (.slice D u L)/\(ah cx fh [.slice p a o,.slice D u L] m fun al j=>∃z,al=(.bool z)/\splitB (!z) (∃F K aa,cW cx (bump j 9) cO (.slice f e d) (some (.int .i64 (bh .i64 c (aQ a)))) none none=some (.slice F K aa)/\∃B G T,cW cx (bump j 9) cO (.slice f e d) (some (.int .i64 c)) none none=some (.slice B G T)/\∃an s,iB cx (bump j 9) [cO,cO] [.slice F K aa,.slice B G T]=some (.int .i64 an,s)/\∃S A R,cW cx s cO (.slice f e d) (some (.int .i64 c)) none none=some (.slice S A R)/\∃ar E,iB cx s [cO,cO] [.slice S A R,.slice p a o]=some (.int .i64 ar,E)/\Q (.slice f e d) E) (∃O af H,cW cx j cO (.slice f e d) (some (.int .i64 (aQ b))) none none=some (.slice O af H)/\∃aq t,iB cx j [cO,cO] [.slice O af H,.slice p a o]=some (.int .i64 aq,t)/\∃Z ab N,cW cx t cO (.slice f e d) (some (.int .i64 c)) none none=some (.slice Z ab N)/\(ah cx jQ [.slice Z ab N,.int .i64 (aQ a)] t fun aj au=>aj=(.tuple #[])/\Q (.slice f e d) au))))))
theorem oV{i p:Option Addr}{b g a o:Nat}{c:Int}{m:Mem}{Q:Value->Mem->Prop}(h:qf i p b g a o c m Q):ah cx eY [.slice i b g,.int .i64 c,.slice p a o] m Q:=
 ah.of (fn:=Tryz.f86) (LS:=[]) (ann:=[]) dm de (by kernel_rfl) (by kernel_rfl) (Eq.mp (by kernel_rfl) h)
end
end Go.Proofs.YthpnifigjfplbaaGreat.vc0
