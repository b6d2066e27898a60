import Derived.Test.YthpnifigjfplbaaGreatQU16
import Derived.Below
import Derived.ChangeSame
namespace Go.AX
variable [Kap]
open Go Go.RowKit
def isTrue(r:Out Value):Bool:=match r with
 | some (.bool true,_)=>true
 | _=>false
def m0(P:Program):Mem:=⟨.nil,P.globals.size+1,0⟩
def φ0(P:Program):cV:=fun b=>if b<P.globals.size+1 then some ⟨b,0,0,0,0⟩ else none
omit [Kap]in
theorem nQ{α : Type}(b:Nat):(Tr.nil:Tr α).get b=none:=by
 cases b<;>rfl
omit [Kap]in
theorem Qo(P:Program)(w:World):RR P (φ0 P) (m0 P) w:=by
 refine⟨⟨?_,?_,?_⟩,?_,Nat.zero_le _⟩
 .intro b o h;rw[show (m0 P).hp.get b=none from nQ b]at h;cases h
 .intro b1 b2 o1 o2 l1 l2 h;rw[show (m0 P).hp.get b1=none from nQ b1]at h;cases h
 .intro g hg;exact⟨⟨g,0,0,0,0⟩,if_pos (Nat.lt_succ_of_le hg),rfl,rfl⟩
 .intro b hb;exact if_neg (by have:P.globals.size+1<=b:=hb;omega)
theorem Stp.below{P:Program}{φ':cV}{m':Mem}{w w':World}(h:Stp (φ0 P) (m0 P) w φ' m' w'):Below w.heap.size w w':=
 ⟨h.os,h.tape,h.output,h.size,fun k hk=>h.same k hk (by
  rintro⟨b,o,l,_,h1,_⟩;rw[show (m0 P).hp.get b=none from nQ b]at h1;cases h1)⟩
theorem Ga{P:Program}{cx:Cx}(hcx:CxOk P cx)(hov:oX P cx)(jt:P.follows .mixedOrders=true){n k:Nat}(h:isTrue (Bj cx n k [] (m0 P))=true)(w:World) :
  Calls P k #[] w fun e w'=>(e = .returned (.bool true)/\Below w.heap.size w w')/\(Kap.k->w.drawn<=w'.drawn):=by
 rcases hc:Bj cx n k [] (m0 P)with _|⟨v,m'⟩
 .rw[hc]at h;cases h
 .rw[hc]at h;have hv:v = .bool true:=by
   unfold isTrue at h;split at h
   .rename_i heq;cases heq;rfl
   .cases h
  subst hv;have:=Gb hcx hov jt hc (φ0 P) w #[] ⟨rfl,fun i v v' h=>by simp at h⟩ (Qo P w);refine this.mono ?_;rintro e w' ⟨v',φ',rfl,hv,_,hs⟩;refine⟨⟨?_,hs.below⟩,hs.drawn⟩;cases hv;rfl
omit [Kap]in
theorem EP{H:Type}{enc:TypeId×Value->H}{P:Program}{f:Func}{s:ChangeSpec}{apart fresh handsOn again:Bool}{W W':World}{args:Array Value}{v:Value}{ds gs:List (DataW H)}{before pa pv:List MemPlace}
  (hW:DataW.Whole enc P f.params.toList s.vars apart W args.toList ds gs before)
  (hres:∀(b:Nat) (sp:Nat->Bool) (hd:Bool),DataW.TrodAll enc P W' b sp hd f.resultTypes.toList (v.resultList f.resultTypes.size) (s.fn H (ds++gs)).results [])
  (hargs:∀sp:Nat->Bool,(∀p∈before,sp p.block=true)->DataW.TrodAll enc P W' 0 sp true f.params.toList args.toList (s.fn H (ds++gs)).args pa)
  (hvars:∀sp:Nat->Bool,(∀p∈before,sp p.block=true)->DataW.TrodVars enc P W' sp s.vars (s.fn H (ds++gs)).vars pv)
  (hps:before=pa++pv) (hk:Below W.heap.size W W')
  (hok:∀(j:Nat) (t:TypeId) (r:Value),f.resultTypes[j]? = some t->(v.resultList f.resultTypes.size)[j]? = some r->Value.okWide P W' .any 0 t r) :
  s.post enc P f apart fresh handsOn again W args v W':=by
 have hold:∀p∈before,(fun b=>decide (b<W.heap.size)) p.block=true:=fun p hp=>by simpa using hW.lt p hp
 refine⟨ds,gs,before,[],pa,pv,hW,hres _ _ _,hargs _ hold,hvars _ hold,World.keptBut_mono (fun p hp=>⟨hp,?_⟩) (hk.frame (·∈before)),fun _=>?_⟩
 .rw[hps,List.mem_append]at hp;exact Or.inr hp
 .have hlt:=hW.lt;obtain⟨_,_,_,_,_,hz,hn⟩:=hW;refine⟨hok,_,_,([]++pa)++pv,⟨[]++pa,pv,ChangeShapes.trodAll_append (hargs _ (fun _ _=>rfl)) (hres _ _ _),hvars _ (fun _ _=>rfl),rfl,?_,?_⟩,?_⟩
  .intro b off hp;have hp':MemPlace.cell b off∈before:=by rw[hps];simpa using hp
   rw[hk.frozen (hlt _ hp')];exact hz b off hp'
  .intro ha;have:=hn ha;rw[hps]at this;simpa using this
  .intro p hp _;rw[hps];simpa using hp
end Go.AX
