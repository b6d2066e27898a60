import Derived.Test.YthpnifigjfplbaaGreatQF22
import Derived.Test.YthpnifigjfplbaaGreatQF24
import Derived.Test.YthpnifigjfplbaaGreatQF26
import Derived.WalkKit
import Derived.ProofKit
import Derived.OpenShut
set_option linter.unusedVariables false
set_option linter.unusedSectionVars false
namespace Go.AX
open Go Go.RowKit Go.ChangeShapes Go.WideShapes Go.Deep
variable [Kap]
section
variable {H:Type}{enc:TypeId×Value->H}{P:Program}{w:World}
omit [Kap]in
theorem RdSt.setFl{cx:Cx}{m:Mem}{M now:Int}{a1 a2 a3:Option Addr}{n1 n2 n3 c3 f:Nat}{σ : pm.St}(h:RdSt cx m M now a1 n1 a2 n2 a3 n3 c3 σ):RdSt cx (AX.setFl m f) M now a1 n1 a2 n2 a3 n3 c3 σ:=
 ⟨h.em,h.enow,let ⟨ss,a,b⟩:=h.servs;⟨ss,a.hp rfl,b.imp fun _ _ r=>⟨r.id,r.s,r.sec,r.held,r.num,r.ran,let ⟨js,a,b⟩:=r.jobs;⟨js,a.hp rfl,b.imp fun _ _ r=>⟨r.num,r.at_,r.done,r.prog.hp rfl⟩⟩⟩⟩,
  let ⟨ls,a,b⟩:=h.sems;⟨ls,a.hp rfl,b.imp fun _ _ r=>⟨r.most,r.holder,r.dead,r.queue.hp rfl⟩⟩,h.backs.hp rfl,⟨h.cut.1,h.cut.2⟩⟩
end
end Go.AX
