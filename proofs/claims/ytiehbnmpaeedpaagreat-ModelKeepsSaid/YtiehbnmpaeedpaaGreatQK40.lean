import Derived.Test.YtiehbnmpaeedpaaGreatQK03
import Derived.Test.YtiehbnmpaeedpaaGreatQK38
import Derived.Test.YtiehbnmpaeedpaaGreatQK32
import Derived.Test.YtiehbnmpaeedpaaGreatQK21
set_option linter.unusedVariables false
namespace Go.Proofs.YtiehbnmpaeedpaaGreat.vc
open Go Go.AX Go.Sort Go.RowKit
set_option maxRecDepth 100000
instance:Kap:=⟨False⟩
theorem L9(blk off size:Nat)(w:World):CmpLays Tryz.prog fT #[] fQ 3 pl.cmpE blk off size w:=
 fun _ _ _ _ x y=>vc0.Cu x y _
theorem G0:ltOf pl.cmpE=pl.lt:=rfl
theorem Ma:jQ Tryz.prog fp yO:=by
 refine Ia (P:=Tryz.prog) (f:=fp) (fn:=Tryz.f147) Tryz.func147 (by kernel_rfl) (by kernel_rfl) (enc:=fQ) (k:=3) (fun _=>rfl) (by omega) (fun _=>rfl) (fun l xs h=>LX h) pl.srt_length (fv:=.func (.func fT) #[] #[]) ?_ ?_ ?_
 .intro φ v h;cases h with
  | func fn f f' c c' hf _ hc _=>
   obtain⟨l⟩:=f';obtain⟨l2⟩:=c';have e1:l=[]:=List.eq_nil_of_length_eq_zero (by simpa using hf.symm);have e2:l2=[]:=List.eq_nil_of_length_eq_zero (by simpa using hc.symm);subst e1;subst e2;rfl
 .intro p cap w;exact AnyF.slices_SortFunc_none Tryz.sortE p cap (.func (.func fT) #[] #[]) w
 .intro blk off cap d w hH hb hs;have eg:∀args w,(callFunc fT args).run Tryz.prog w = .ok (.enter fT args) w:=enters_of Tryz.func148 (by kernel_rfl) rfl;exact AnyQ.slices_SortFunc_total Tryz.sortE 3 Tryz.isAgg113 Tryz.sizeOf113 fQ (fun _=>rfl) (fun x v hv=>by simp[fQ]at hv;rcases hv with rfl|rfl|rfl<;>rfl) pl.cmpE (G0▸pl.swo) fT #[] blk off cap d w eg (L9 blk off d.size w) hH hb hs (fun x y h1 h2=>pl.lt_total (G0▸h1) (G0▸h2))
theorem KH:jQ Tryz.prog gq ve:=
 Dx (P:=Tryz.prog) (k:=gq) (fn:=Tryz.f97) Tryz.func97 (by kernel_rfl) (by kernel_rfl) Tryz.slices_Sort_int_none Tryz.slices_Sort_int
theorem jz:Tryz.prog.follows .mixedOrders=true:=vc0.jz
theorem KI:jQ Tryz.prog fF Ao:=
 Jl (P:=Tryz.prog) (cx:=vc0.cx) (kov:=fL) (krot:=jR) (tint:=fg) vc0.GP vc0.GQ vc0.jz vc0.ez vc0.Nx (by kernel_rfl)
  (fun a0 n0 c0 x1 a2 n2 c2 m Q h=>vc0.nQ h)
theorem IU:isTrue (zc (Cx.of Tryz.prog) 100000 kJ [] (m0 Tryz.prog))=true:=by
 kernel_rfl
theorem IV:jQ Tryz.prog kJ qV:=
 Jw (P:=Tryz.prog) (cx:=Cx.of Tryz.prog) (n:=100000) (k:=kJ) (fn:=Tryz.f11) (CxOk.of _ _) (nD.nil _) jz Tryz.func11 (by kernel_rfl) (by kernel_rfl) IU
theorem GQ:nD Tryz.prog cx:=HE FA fun x hx=>by
 simp only[tY,List.mem_cons,List.not_mem_nil,or_false]at hx;rcases hx with h|h|h|h<;>rw[h]
 .exact IV
 .exact KH
 .exact Ma
 .exact KI
end Go.Proofs.YtiehbnmpaeedpaaGreat.vc
