import Derived.Test.YthpnifigjfplbaaGreatQP03
import Derived.Test.YthpnifigjfplbaaGreatQP41
import Derived.Test.YthpnifigjfplbaaGreatQP32
import Derived.Test.YthpnifigjfplbaaGreatQP21
set_option linter.unusedVariables false
namespace Go.Proofs.YthpnifigjfplbaaGreat.vc
open Go Go.AX Go.Sort Go.RowKit
set_option maxRecDepth 100000
instance:Kap:=⟨False⟩
theorem OU(blk off size:Nat)(w:World):CmpLays Tryz.prog fq #[] fm 3 pl.cmpE blk off size w:=
 fun _ _ _ _ x y=>vc0.EK x y _
theorem Jl:ltOf pl.cmpE=pl.lt:=rfl
theorem OV:jN Tryz.prog eN AF:=by
 refine Kx (P:=Tryz.prog) (f:=eN) (fn:=Tryz.f164) Tryz.func164 (by kernel_rfl) (by kernel_rfl) (enc:=fm) (k:=3) (fun _=>rfl) (by omega) (fun _=>rfl) (fun l xs h=>Ov h) pl.srt_length (fv:=.func (.func fq) #[] #[]) ?_ ?_ ?_
 .intro φ v h;cases h with
  | func fn f f' c c' hf _ hc _=>
   obtain⟨l⟩:=f';obtain⟨l2⟩:=c';have e1:l=[]:=List.eq_nil_of_length_eq_zero (by simpa using hf.symm);have e2:l2=[]:=List.eq_nil_of_length_eq_zero (by simpa using hc.symm);subst e1;subst e2;rfl
 .intro p cap w;exact AnyF.slices_SortFunc_none Tryz.sortE p cap (.func (.func fq) #[] #[]) w
 .intro blk off cap d w hH hb hs;have eg:∀args w,(callFunc fq args).run Tryz.prog w = .ok (.enter fq args) w:=enters_of Tryz.func165 (by kernel_rfl) rfl;exact AnyQ.slices_SortFunc_total Tryz.sortE 3 Tryz.isAgg165 Tryz.sizeOf165 fm (fun _=>rfl) (fun x v hv=>by simp[fm]at hv;rcases hv with rfl|rfl|rfl<;>rfl) pl.cmpE (Jl▸pl.swo) fq #[] blk off cap d w eg (OU blk off d.size w) hH hb hs (fun x y h1 h2=>pl.lt_total (Jl▸h1) (Jl▸h2))
theorem Nh:jN Tryz.prog fL wP:=
 FZ (P:=Tryz.prog) (k:=fL) (fn:=Tryz.f122) Tryz.func122 (by kernel_rfl) (by kernel_rfl) Tryz.slices_Sort_int_none Tryz.slices_Sort_int
theorem iZ:Tryz.prog.follows .mixedOrders=true:=vc0.iZ
theorem Ni:jN Tryz.prog eZ B8:=
 LK (P:=Tryz.prog) (cx:=vc0.cx) (kov:=fh) (krot:=jQ) (tint:=t_int) vc0.I1 vc0.I2 vc0.iZ vc0.dh vc0.Qm (by kernel_rfl)
  (fun a0 n0 c0 x1 a2 n2 c2 m Q h=>vc0.oU h)
theorem Lk:isTrue (AU (Cx.of Tryz.prog) 100000 kF [] (m0 Tryz.prog))=true:=by
 kernel_rfl
theorem Ll:jN Tryz.prog kF se:=
 LY (P:=Tryz.prog) (cx:=Cx.of Tryz.prog) (n:=100000) (k:=kF) (fn:=Tryz.f10) (CxOk.of _ _) (oI.nil _) iZ Tryz.func10 (by kernel_rfl) (by kernel_rfl) Lk
theorem I2:oI Tryz.prog cx:=J0 HU fun x hx=>by
 simp only[vI,List.mem_cons,List.not_mem_nil,or_false]at hx;rcases hx with h|h|h|h<;>rw[h]
 .exact Ll
 .exact Nh
 .exact OV
 .exact Ni
end Go.Proofs.YthpnifigjfplbaaGreat.vc
