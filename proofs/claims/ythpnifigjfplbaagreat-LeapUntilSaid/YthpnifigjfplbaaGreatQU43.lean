import Derived.Test.YthpnifigjfplbaaGreatQU03
import Derived.Test.YthpnifigjfplbaaGreatQU41
import Derived.Test.YthpnifigjfplbaaGreatQU32
import Derived.Test.YthpnifigjfplbaaGreatQU21
set_option linter.unusedVariables false
namespace Go.Proofs.YthpnifigjfplbaaGreat.vc
open Go Go.AX Go.Sort Go.RowKit
set_option maxRecDepth 100000
instance:Kap:=⟨False⟩
theorem Pj(blk off size:Nat)(w:World):CmpLays Tryz.prog fA #[] fp 3 pl.cmpE blk off size w:=
 fun _ _ _ _ x y=>vc0.Fh x y _
theorem JM:ltOf pl.cmpE=pl.lt:=rfl
theorem Pk:jZ Tryz.prog eQ A4:=by
 refine KX (P:=Tryz.prog) (f:=eQ) (fn:=Tryz.f164) Tryz.func164 (by kernel_rfl) (by kernel_rfl) (enc:=fp) (k:=3) (fun _=>rfl) (by omega) (fun _=>rfl) (fun l xs h=>OV h) pl.srt_length (fv:=.func (.func fA) #[] #[]) ?_ ?_ ?_
 .intro φ v h;cases h with
  | func fn f f' c c' hf _ hc _=>
   obtain⟨l⟩:=f';obtain⟨l2⟩:=c';have e1:l=[]:=List.eq_nil_of_length_eq_zero (by simpa using hf.symm);have e2:l2=[]:=List.eq_nil_of_length_eq_zero (by simpa using hc.symm);subst e1;subst e2;rfl
 .intro p cap w;exact AnyF.slices_SortFunc_none Tryz.sortE p cap (.func (.func fA) #[] #[]) w
 .intro blk off cap d w hH hb hs;have eg:∀args w,(callFunc fA args).run Tryz.prog w = .ok (.enter fA args) w:=enters_of Tryz.func165 (by kernel_rfl) rfl;exact AnyQ.slices_SortFunc_total Tryz.sortE 3 Tryz.isAgg165 Tryz.sizeOf165 fp (fun _=>rfl) (fun x v hv=>by simp[fp]at hv;rcases hv with rfl|rfl|rfl<;>rfl) pl.cmpE (JM▸pl.swo) fA #[] blk off cap d w eg (Pj blk off d.size w) hH hb hs (fun x y h1 h2=>pl.lt_total (JM▸h1) (JM▸h2))
theorem NF:jZ Tryz.prog fO xq:=
 Gy (P:=Tryz.prog) (k:=fO) (fn:=Tryz.f122) Tryz.func122 (by kernel_rfl) (by kernel_rfl) Tryz.slices_Sort_int_none Tryz.slices_Sort_int
theorem jt:Tryz.prog.follows .mixedOrders=true:=vc0.jt
theorem NG:jZ Tryz.prog fb Cs:=
 Mf (P:=Tryz.prog) (cx:=vc0.cx) (kov:=fj) (krot:=kf) (tint:=t_int) vc0.Jr vc0.Js vc0.jt vc0.db vc0.QJ (by kernel_rfl)
  (fun a0 n0 c0 x1 a2 n2 c2 m Q h=>vc0.pt h)
theorem LJ:isTrue (Bj (Cx.of Tryz.prog) 100000 kR [] (m0 Tryz.prog))=true:=by
 kernel_rfl
theorem LK:jZ Tryz.prog kR sF:=
 Mp (P:=Tryz.prog) (cx:=Cx.of Tryz.prog) (n:=100000) (k:=kR) (fn:=Tryz.f10) (CxOk.of _ _) (oX.nil _) jt Tryz.func10 (by kernel_rfl) (by kernel_rfl) LJ
theorem Js:oX Tryz.prog cx:=Kq Ik fun x hx=>by
 simp only[wh,List.mem_cons,List.not_mem_nil,or_false]at hx;rcases hx with h|h|h|h<;>rw[h]
 .exact LK
 .exact NF
 .exact Pk
 .exact NG
end Go.Proofs.YthpnifigjfplbaaGreat.vc
