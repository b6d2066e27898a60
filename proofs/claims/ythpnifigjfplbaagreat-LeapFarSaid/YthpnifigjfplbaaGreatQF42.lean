import Derived.Test.YthpnifigjfplbaaGreatQF03
import Derived.Test.YthpnifigjfplbaaGreatQF40
import Derived.Test.YthpnifigjfplbaaGreatQF32
import Derived.Test.YthpnifigjfplbaaGreatQF21
set_option linter.unusedVariables false
namespace Go.Proofs.YthpnifigjfplbaaGreat.vc
open Go Go.AX Go.Sort Go.RowKit
set_option maxRecDepth 100000
instance:Kap:=⟨False⟩
theorem Mt(blk off size:Nat)(w:World):CmpLays Tryz.prog fc #[] eZ 3 pl.cmpE blk off size w:=
 fun _ _ _ _ x y=>vc0.CZ x y _
theorem Hp:ltOf pl.cmpE=pl.lt:=rfl
theorem Mu:jt Tryz.prog eC zn:=by
 refine IB (P:=Tryz.prog) (f:=eC) (fn:=Tryz.f164) Tryz.func164 (by kernel_rfl) (by kernel_rfl) (enc:=eZ) (k:=3) (fun _=>rfl) (by omega) (fun _=>rfl) (fun l xs h=>Mb h) pl.srt_length (fv:=.func (.func fc) #[] #[]) ?_ ?_ ?_
 .intro φ v h;cases h with
  | func fn f f' c c' hf _ hc _=>
   obtain⟨l⟩:=f';obtain⟨l2⟩:=c';have e1:l=[]:=List.eq_nil_of_length_eq_zero (by simpa using hf.symm);have e2:l2=[]:=List.eq_nil_of_length_eq_zero (by simpa using hc.symm);subst e1;subst e2;rfl
 .intro p cap w;exact AnyF.slices_SortFunc_none Tryz.sortE p cap (.func (.func fc) #[] #[]) w
 .intro blk off cap d w hH hb hs;have eg:∀args w,(callFunc fc args).run Tryz.prog w = .ok (.enter fc args) w:=enters_of Tryz.func165 (by kernel_rfl) rfl;exact AnyQ.slices_SortFunc_total Tryz.sortE 3 Tryz.isAgg165 Tryz.sizeOf165 eZ (fun _=>rfl) (fun x v hv=>by simp[eZ]at hv;rcases hv with rfl|rfl|rfl<;>rfl) pl.cmpE (Hp▸pl.swo) fc #[] blk off cap d w eg (Mt blk off d.size w) hH hb hs (fun x y h1 h2=>pl.lt_total (Hp▸h1) (Hp▸h2))
theorem K1:jt Tryz.prog fC vz:=
 Eb (P:=Tryz.prog) (k:=fC) (fn:=Tryz.f122) Tryz.func122 (by kernel_rfl) (by kernel_rfl) Tryz.slices_Sort_int_none Tryz.slices_Sort_int
theorem iM:Tryz.prog.follows .mixedOrders=true:=vc0.iM
theorem K2:jt Tryz.prog gO Dd:=
 JH (P:=Tryz.prog) (cx:=vc0.cx) (kov:=eV) (krot:=jC) (tint:=t_int) vc0.G7 vc0.G8 vc0.iM vc0.dh vc0.NU (by kernel_rfl)
  (fun a0 n0 c0 x1 a2 n2 c2 m Q h=>vc0.nU h)
theorem Ji:isTrue (zB (Cx.of Tryz.prog) 100000 ka [] (m0 Tryz.prog))=true:=by
 kernel_rfl
theorem Jj:jt Tryz.prog ka qN:=
 JR (P:=Tryz.prog) (cx:=Cx.of Tryz.prog) (n:=100000) (k:=ka) (fn:=Tryz.f10) (CxOk.of _ _) (nK.nil _) iM Tryz.func10 (by kernel_rfl) (by kernel_rfl) Ji
theorem G8:nK Tryz.prog cx:=H0 Gb fun x hx=>by
 simp only[xp,List.mem_cons,List.not_mem_nil,or_false]at hx;rcases hx with h|h|h|h<;>rw[h]
 .exact Jj
 .exact K1
 .exact Mu
 .exact K2
end Go.Proofs.YthpnifigjfplbaaGreat.vc
