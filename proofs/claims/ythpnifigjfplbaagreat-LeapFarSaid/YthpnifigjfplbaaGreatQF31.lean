import Derived.Test.YthpnifigjfplbaaGreatRows
import Derived.Test.YthpnifigjfplbaaGreatQF08
import Derived.Test.YthpnifigjfplbaaGreatQF28
import Derived.Test.YthpnifigjfplbaaGreatQF20
import Derived.KernelRfl
set_option linter.unusedVariables false
namespace Go.Proofs.YthpnifigjfplbaaGreat.vc0
open Go Go.AX Go.Proofs.YthpnifigjfplbaaGreat.vc
noncomputable section
def ov:Tr (List Value->Mem->Option (Value×Mem)):=Tr.put .nil eV nJ
def cx:Cx:=Cx.of Tryz.prog ov
theorem G7:CxOk Tryz.prog cx:=CxOk.of _ _
theorem NU:cx.ov.get eV=some nJ:=by
 show ov.get _=_;unfold ov;rw[Tr.get_put,if_pos rfl]
theorem Gb{k:FuncId}{f:List Value->Mem->Option (Value×Mem)}(h:cx.ov.get k=some f):f=nJ:=by
 have h:ov.get k=some f:=h;unfold ov at h;rw[Tr.get_put]at h;split at h
 .exact(Option.some.inj h).symm
 .rw[Tr.get_nil]at h;cases h
theorem dk:mQ cx:=fun k f h a u r u' e E m hb=>by
 have:=Gb h;subst this;exact Jz e E m hb
theorem dh:lL cx:=fun k f h a u r u' e hw=>by
 have:=Gb h;subst this;exact HF e hw
theorem iM:Tryz.prog.follows .mixedOrders=true:=by kernel_rfl
theorem M9[Kap]:jt Tryz.prog eV nJ:=
 My (fn:=Tryz.f125) (t:=cX) (tb:=EH) (e:=eH) (s:=11) Tryz.func125 (by kernel_rfl) (by kernel_rfl) (by kernel_rfl) (by kernel_rfl) Tryz.underlying23 Tryz.sizeOf78
theorem G8[Kap]:nK Tryz.prog cx:=fun k f h=>
 MC (P:=Tryz.prog) (k:=eV) (f:=nJ) (t:=Tr.nil) MD M9 k f h
end
end Go.Proofs.YthpnifigjfplbaaGreat.vc0
namespace Go.Proofs.YthpnifigjfplbaaGreat.vc0
open Go Go.AX Go.Proofs.YthpnifigjfplbaaGreat.vc
set_option maxRecDepth 100000
noncomputable section
def jM(a:Int)(m:Mem)(Q:Value->Mem->Prop):Prop:=
 Q (.bool (dY a a)) m
theorem mu{a:Int}{m:Mem}{Q:Value->Mem->Prop}(h:jM a m Q):ah cx fZ [.int .i64 a] m Q:=
 ah.of (fn:=Tryz.f143) (LS:=[]) (ann:=[]) dk dh (by kernel_rfl) (by kernel_rfl) (Eq.mp (by kernel_rfl) h)
def qH(a:Int)(m:Mem)(Q:Value->Mem->Prop):Prop:=
 Q (.bool (dY a a)) m
theorem vw{a:Int}{m:Mem}{Q:Value->Mem->Prop}(h:qH a m Q):ah cx kl [.int .i64 a] m Q:=
 ah.of (fn:=Tryz.f195) (LS:=[]) (ann:=[]) dk dh (by kernel_rfl) (by kernel_rfl) (Eq.mp (by kernel_rfl) h)
def iJ(e c:Int)(m:Mem)(Q:Value->Mem->Prop):Prop:=
 ah cx fZ [.int .i64 e] m fun f g=>∃d,f=(.bool d)/\(ah cx fZ [.int .i64 c] g fun i a=>∃b,i=(.bool b)/\splitB d (splitB b (Q (.int .i64 0) a) (Q (.int .i64 (-1:Int)) a)) (splitB b (Q (.int .i64 1) a) (splitB (cQ e c) (Q (.int .i64 (-1:Int)) a) (splitB (cQ c e) (Q (.int .i64 1) a) (Q (.int .i64 0) a)))))
theorem lj{e c:Int}{m:Mem}{Q:Value->Mem->Prop}(h:iJ e c m Q):ah cx gL [.int .i64 e,.int .i64 c] m Q:=
 ah.of (fn:=Tryz.f106) (LS:=[]) (ann:=[]) dk dh (by kernel_rfl) (by kernel_rfl) (Eq.mp (by kernel_rfl) h)
def po(e c:Int)(m:Mem)(Q:Value->Mem->Prop):Prop:=
 ah cx kl [.int .i64 e] m fun f g=>∃d,f=(.bool d)/\(ah cx kl [.int .i64 c] g fun i a=>∃b,i=(.bool b)/\splitB d (splitB b (Q (.int .i64 0) a) (Q (.int .i64 (-1:Int)) a)) (splitB b (Q (.int .i64 1) a) (splitB (cQ e c) (Q (.int .i64 (-1:Int)) a) (splitB (cQ c e) (Q (.int .i64 1) a) (Q (.int .i64 0) a)))))
theorem tN{e c:Int}{m:Mem}{Q:Value->Mem->Prop}(h:po e c m Q):ah cx lO [.int .i64 e,.int .i64 c] m Q:=
 ah.of (fn:=Tryz.f181) (LS:=[]) (ann:=[]) dk dh (by kernel_rfl) (by kernel_rfl) (Eq.mp (by kernel_rfl) h)
def xo(l:Option Addr)(g n:Nat)(m:Mem)(Q:Value->Mem->Prop):Prop:=
 ∃d:Int->Mem->Nat->Prop,(∃i:Nat,d 0 m i)/\∀a b e,d a b e->splitB (cQ a (am g)) ((0<=a/\a<((g:Nat):Int))/\(db l fun k j=>∃c,rd b k (j+Int.toNat a*1)=some (.int .i64 c)/\splitB (dY c 0) (Q (.int .i64 c) b) (∃f:Nat,f<e/\d (bh .i64 a 1) b f))) (Q (.int .i64 0) b)
theorem AO{l:Option Addr}{g n:Nat}{m:Mem}{Q:Value->Mem->Prop}(h:xo l g n m Q):ah cx sx [.slice l g n] m Q:=
 ah.of (fn:=Tryz.f180) (LS:=[]) (ann:=[none,none,none,none,some ⟨[3,6,7],[(8,.int .i64)],[],[],[],0⟩]) dk dh (by kernel_rfl) (by kernel_rfl) (Eq.mp (by kernel_rfl) h)
def vU(n p o l:Int)(r q:Bool)(m:Mem)(Q:Value->Mem->Prop):Prop:=
 ah cx lO [.int .i64 p,.int .i64 l] (setFl (bump m 15) (bump m 2).nx) fun g i=>∃a,g=(.int .i64 a)/\(ah cx gL [.int .i64 n,.int .i64 o] (setFl i (bump m 15).fl) fun d j=>∃b,d=(.int .i64 b)/\(ah cx sx [.slice (some ⟨((bump m 2).nx+10),0,none⟩) 2 2] (addO j ((bump m 2).nx+10) (row [.int .i64 a,.int .i64 b] t_int false)) fun f k=>∃c,f=(.int .i64 c)/\(cY k fun e=>Q (.int .i64 c) e)))
theorem zl{n p o l:Int}{r q:Bool}{m:Mem}{Q:Value->Mem->Prop}(h:vU n p o l r q m Q):ah cx nC [.agg #[.int .i64 n,.int .i64 p,.bool r],.agg #[.int .i64 o,.int .i64 l,.bool q]] m Q:=
 ah.of (fn:=Tryz.f166) (LS:=[2,3]) (ann:=[]) dk dh (by kernel_rfl) (by kernel_rfl) (Eq.mp (by kernel_rfl) h)
def vV(n p o l:Int)(d b:Bool)(m:Mem)(Q:Value->Mem->Prop):Prop:=
 dV (fun(j:Mem)=>ah cx nC [.agg #[.int .i64 n,.int .i64 p,.bool d],.agg #[.int .i64 o,.int .i64 l,.bool b]] j fun g k=>∃f,g=(.int .i64 f)/\Q (.int .i64 f) k) fun c=>dV (fun(i:Bool)(a:Mem)=>splitB i (Q (.int .i64 (-1:Int)) a) (splitB b (splitB (!d) (Q (.int .i64 1) a) (c a)) (c a))) fun e=>splitB d (e (!b) (bump m 2)) (e false (bump m 2))
theorem zm{n p o l:Int}{d b:Bool}{m:Mem}{Q:Value->Mem->Prop}(h:vV n p o l d b m Q):ah cx fc [.agg #[.int .i64 n,.int .i64 p,.bool d],.agg #[.int .i64 o,.int .i64 l,.bool b]] m Q:=
 ah.of (fn:=Tryz.f165) (LS:=[2,3]) (ann:=[none,some ⟨[],[],[(2,0,0),(3,1,0)],[0,1],[],3⟩,some ⟨[],[(5,.bool)],[(2,0,0),(3,1,0)],[0,1],[],2⟩]) dk dh (by kernel_rfl) (by kernel_rfl) (Eq.mp (by kernel_rfl) h)
def pi(g n:Option Addr)(c i a p:Nat)(b:Int)(m:Mem)(Q:Value->Mem->Prop):Prop:=
 ∃al ap aw,cU cx m cX (.slice g c i) (some (.int .i64 b)) none none=some (.slice al ap aw)/\splitB (cT (am a) 0) (Q (.slice g c i) m) (splitB (cT b (am c)) (∃S ae R A,bQ cx m [cX,cX] [.slice g c i,.slice n a p]=some (.slice S ae R,A)/\Q (.slice S ae R) A) (∃z,lK cx m [cX] [.slice g c i]=some (.int .i64 z)/\splitB (cQ z (bh .i64 (am c) (am a))) (∃W Y V,cU cx m cX (.slice g c i) none (some (.int .i64 b)) none=some (.slice W Y V)/\∃l o k s,bQ cx m [cX,t_int] [.slice W Y V,.int .i64 (cZ .i64 (bh .i64 (am c) (am a)) b)]=some (.slice l o k,s)/\∃ai X ad,cU cx s cX (.slice l o k) (some (.int .i64 b)) none none=some (.slice ai X ad)/\∃ak q,ij cx s [cX,cX] [.slice ai X ad,.slice n a p]=some (.int .i64 ak,q)/\∃v ag w,cU cx (bump q 9) cX (.slice l o k) (some (.int .i64 (bh .i64 b (am a)))) none none=some (.slice v ag w)/\∃af Z P,cU cx (bump q 9) cX (.slice g c i) (some (.int .i64 b)) none none=some (.slice af Z P)/\∃aq M,ij cx (bump q 9) [cX,cX] [.slice v ag w,.slice af Z P]=some (.int .i64 aq,M)/\Q (.slice l o k) M) (∃e f d,cU cx m cX (.slice g c i) none (some (.int .i64 (bh .i64 (am c) (am a)))) none=some (.slice e f d)/\∃D I T,cU cx m cX (.slice e f d) (some (.int .i64 (bh .i64 b (am a)))) none none=some (.slice D I T)/\(ah cx eV [.slice n a p,.slice D I T] m fun ao j=>∃E,ao=(.bool E)/\splitB (!E) (∃ab y U,cU cx (bump j 9) cX (.slice e f d) (some (.int .i64 (bh .i64 b (am a)))) none none=some (.slice ab y U)/\∃aa K N,cU cx (bump j 9) cX (.slice e f d) (some (.int .i64 b)) none none=some (.slice aa K N)/\∃an t,ij cx (bump j 9) [cX,cX] [.slice ab y U,.slice aa K N]=some (.int .i64 an,t)/\∃L u C,cU cx t cX (.slice e f d) (some (.int .i64 b)) none none=some (.slice L u C)/\∃av ac,ij cx t [cX,cX] [.slice L u C,.slice n a p]=some (.int .i64 av,ac)/\Q (.slice e f d) ac) (∃O F B,cU cx j cX (.slice e f d) (some (.int .i64 (am c))) none none=some (.slice O F B)/\∃au r,ij cx j [cX,cX] [.slice O F B,.slice n a p]=some (.int .i64 au,r)/\∃G x H,cU cx r cX (.slice e f d) (some (.int .i64 b)) none none=some (.slice G x H)/\(ah cx jC [.slice G x H,.int .i64 (am a)] r fun ar aj=>ar=(.tuple #[])/\Q (.slice e f d) aj))))))
theorem nU{g n:Option Addr}{c i a p:Nat}{b:Int}{m:Mem}{Q:Value->Mem->Prop}(h:pi g n c i a p b m Q):ah cx gO [.slice g c i,.int .i64 b,.slice n a p] m Q:=
 ah.of (fn:=Tryz.f86) (LS:=[]) (ann:=[]) dk dh (by kernel_rfl) (by kernel_rfl) (Eq.mp (by kernel_rfl) h)
end
end Go.Proofs.YthpnifigjfplbaaGreat.vc0
