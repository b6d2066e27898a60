import Derived.Test.YthpnifigjfplbaaGreatQU16
import Derived.Below
namespace Go.AX
variable [Kap]
open Go Go.RowKit
omit [Kap]in
theorem LR.one{φ : cV}{x:Value}{l:List Value}{l':List Value}(h:LR φ (x::l) l'):∃x' r,l'=x'::r/\VR φ x x'/\LR φ l r:=by
 cases l' with
 | nil=>exact absurd h.1 (by simp)
 | cons x' r=>
  refine⟨x',r,rfl,h.2 0 x x' rfl rfl,?_,fun i v v' h1 h2=>h.2 (i+1) v v' (by simpa using h1) (by simpa using h2)⟩;simpa using h.1
omit [Kap]in
theorem LR.none{φ : cV}{l':List Value}(h:LR φ [] l'):l'=[]:=by
 cases l' with
 | nil=>rfl
 | cons _ _=>exact absurd h.1 (by simp)
section
variable {P:Program} {φ : cV} {m:Mem} {w w':World}
omit [Kap]in
theorem RR.below(hr:RR P φ m w)(hb:Below w.heap.size w w'):RR P φ m w':=
 ⟨⟨fun b o h=>by
   obtain⟨l,h1,h2⟩:=hr.r0.obj b o h;exact⟨l,h1,h2.mono (fun _ _ h=>h) (hb.block _ h2.lt)⟩,hr.r0.inj,hr.r0.glob⟩,hr.fresh,hr.fl⟩
theorem Stp.ofBelow'(hd:Kap.k->w.drawn<=w'.drawn)(hb:Below w.heap.size w w'):Stp φ m w φ m w':=
 ⟨fun _ _ h=>h,fun _ h=>.inr h,fun r hr _=>hb.block r hr,hb.size,hb.os,hb.tape,hb.output,gQ4 _,rfl,fun _ _=>rfl,fun _ _ h=>h,fun _ _=>rfl,hd⟩
end
end Go.AX
