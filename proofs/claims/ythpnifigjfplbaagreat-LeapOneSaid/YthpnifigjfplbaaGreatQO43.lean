import Derived.Test.YthpnifigjfplbaaGreatQO03
import Derived.Test.YthpnifigjfplbaaGreatQO41
import Derived.Test.YthpnifigjfplbaaGreatQO32
import Derived.Test.YthpnifigjfplbaaGreatQO21
set_option linter.unusedVariables false
namespace Go.Proofs.YthpnifigjfplbaaGreat.vc
open Go Go.AX Go.Sort Go.RowKit
set_option maxRecDepth 100000
instance:Kap:=⟨False⟩
theorem ON(blk off size:Nat)(w:World):CmpLays Tryz.prog ft #[] fk 3 pl.cmpE blk off size w:=
 fun _ _ _ _ x y=>vc0.EI x y _
theorem Jj:ltOf pl.cmpE=pl.lt:=rfl
theorem OO:jN Tryz.prog eL AE:=by
 refine Kv (P:=Tryz.prog) (f:=eL) (fn:=Tryz.f164) Tryz.func164 (by kernel_rfl) (by kernel_rfl) (enc:=fk) (k:=3) (fun _=>rfl) (by omega) (fun _=>rfl) (fun l xs h=>Om h) pl.srt_length (fv:=.func (.func ft) #[] #[]) ?_ ?_ ?_
 .intro φ v h;cases h with
  | func fn f f' c c' hf _ hc _=>
   obtain⟨l⟩:=f';obtain⟨l2⟩:=c';have e1:l=[]:=List.eq_nil_of_length_eq_zero (by simpa using hf.symm);have e2:l2=[]:=List.eq_nil_of_length_eq_zero (by simpa using hc.symm);subst e1;subst e2;rfl
 .intro p cap w;exact AnyF.slices_SortFunc_none Tryz.sortE p cap (.func (.func ft) #[] #[]) w
 .intro blk off cap d w hH hb hs;have eg:∀args w,(callFunc ft args).run Tryz.prog w = .ok (.enter ft args) w:=enters_of Tryz.func165 (by kernel_rfl) rfl;exact AnyQ.slices_SortFunc_total Tryz.sortE 3 Tryz.isAgg165 Tryz.sizeOf165 fk (fun _=>rfl) (fun x v hv=>by simp[fk]at hv;rcases hv with rfl|rfl|rfl<;>rfl) pl.cmpE (Jj▸pl.swo) ft #[] blk off cap d w eg (ON blk off d.size w) hH hb hs (fun x y h1 h2=>pl.lt_total (Jj▸h1) (Jj▸h2))
theorem Nb:jN Tryz.prog fK wJ:=
 FY (P:=Tryz.prog) (k:=fK) (fn:=Tryz.f122) Tryz.func122 (by kernel_rfl) (by kernel_rfl) Tryz.slices_Sort_int_none Tryz.slices_Sort_int
theorem iY:Tryz.prog.follows .mixedOrders=true:=vc0.iY
theorem Nc:jN Tryz.prog eY B5:=
 LH (P:=Tryz.prog) (cx:=vc0.cx) (kov:=fh) (krot:=jQ) (tint:=t_int) vc0.IZ vc0.I0 vc0.iY vc0.de vc0.Qg (by kernel_rfl)
  (fun a0 n0 c0 x1 a2 n2 c2 m Q h=>vc0.oV h)
theorem Lh:isTrue (AU (Cx.of Tryz.prog) 100000 kF [] (m0 Tryz.prog))=true:=by
 kernel_rfl
theorem Li:jN Tryz.prog kF sd:=
 LU (P:=Tryz.prog) (cx:=Cx.of Tryz.prog) (n:=100000) (k:=kF) (fn:=Tryz.f10) (CxOk.of _ _) (oJ.nil _) iY Tryz.func10 (by kernel_rfl) (by kernel_rfl) Lh
theorem I0:oJ Tryz.prog cx:=JY HS fun x hx=>by
 simp only[vD,List.mem_cons,List.not_mem_nil,or_false]at hx;rcases hx with h|h|h|h<;>rw[h]
 .exact Li
 .exact Nb
 .exact OO
 .exact Nc
end Go.Proofs.YthpnifigjfplbaaGreat.vc
