import Derived.Test.YtiehbnmpaeedpaaGreatQJ03
import Derived.Test.YtiehbnmpaeedpaaGreatQJ42
import Derived.Test.YtiehbnmpaeedpaaGreatQJ35
import Derived.Test.YtiehbnmpaeedpaaGreatQJ24
set_option linter.unusedVariables false
namespace Go.Proofs.YtiehbnmpaeedpaaGreat.vc
open Go Go.AX Go.Sort Go.RowKit
set_option maxRecDepth 100000
instance:Kap:=⟨False⟩
theorem cmpLays (blk off size:Nat) (w:World):CmpLays Tryz.prog n_edf_order_1 #[] encE 3 pl.cmpE blk off size w:=
 fun _ _ _ _ x y=>vc0.closure_order x y _
theorem lt_of:ltOf pl.cmpE=pl.lt:=rfl
theorem srt_sum:SumOk Tryz.prog n_slices_SortFunc_sl_edf_Ent srtA:=by
 refine sortK_sum (P:=Tryz.prog) (f:=n_slices_SortFunc_sl_edf_Ent) (fn:=Tryz.f147) Tryz.func147 (by kernel_rfl) (by kernel_rfl) (enc:=encE) (k:=3) (fun _=>rfl) (by omega) (fun _=>rfl) (fun l xs h=>decE_eq h) pl.srt_length (fv:=.func (.func n_edf_order_1) #[] #[]) ?_ ?_ ?_
 ·intro φ v h
  cases h with
  | func fn f f' c c' hf _ hc _=>
   obtain ⟨l⟩:=f'
   obtain ⟨l2⟩:=c'
   have e1:l=[]:=List.eq_nil_of_length_eq_zero (by simpa using hf.symm)
   have e2:l2=[]:=List.eq_nil_of_length_eq_zero (by simpa using hc.symm)
   subst e1; subst e2; rfl
 ·intro p cap w
  exact AnyF.slices_SortFunc_none Tryz.sortE p cap (.func (.func n_edf_order_1) #[] #[]) w
 ·intro blk off cap d w hH hb hs
  have eg:∀ args w,(callFunc n_edf_order_1 args).run Tryz.prog w = .ok (.enter n_edf_order_1 args) w:=enters_of Tryz.func148 (by kernel_rfl) rfl
  exact AnyQ.slices_SortFunc_total Tryz.sortE 3 Tryz.isAgg113 Tryz.sizeOf113 encE (fun _=>rfl) (fun x v hv=>by simp [encE] at hv; rcases hv with rfl | rfl | rfl <;> rfl) pl.cmpE (lt_of ▸ pl.swo) n_edf_order_1 #[] blk off cap d w eg (cmpLays blk off d.size w) hH hb hs (fun x y h1 h2=>pl.lt_total (lt_of ▸ h1) (lt_of ▸ h2))
theorem ints_sum:SumOk Tryz.prog n_slices_Sort_sl_int intsA:=
 sortInts_sum (P:=Tryz.prog) (k:=n_slices_Sort_sl_int) (fn:=Tryz.f97) Tryz.func97 (by kernel_rfl) (by kernel_rfl) Tryz.slices_Sort_int_none Tryz.slices_Sort_int
theorem hmix:Tryz.prog.follows .mixedOrders=true:=vc0.hmix
theorem serv_sum:SumOk Tryz.prog n_slices_Insert_sl_model_Serv servA:=
 insA_sum (P:=Tryz.prog) (cx:=vc0.cx) (kov:=n_slices_overlaps_model_Serv) (krot:=n_slices_rotateRight_model_Serv) (tint:=t_int) vc0.cxOk vc0.ovOk vc0.hmix vc0.ovNi vc0.ovK (by kernel_rfl)
  (fun a0 n0 c0 x1 a2 n2 c2 m Q h=>vc0.G_slices_Insert_sl_model_Serv_ok h)
theorem awake_ran:isTrue (callN (Cx.of Tryz.prog) 100000 n_law_awake [] (m0 Tryz.prog))=true:=by
 kernel_rfl
theorem awake_sum:SumOk Tryz.prog n_law_awake trueA:=
 true_sum (P:=Tryz.prog) (cx:=Cx.of Tryz.prog) (n:=100000) (k:=n_law_awake) (fn:=Tryz.f11) (CxOk.of _ _) (OvOk.nil _) hmix Tryz.func11 (by kernel_rfl) (by kernel_rfl) awake_ran
theorem ovOk:OvOk Tryz.prog cx:=ovOk_list ovE fun x hx=>by
 simp only [ovl,List.mem_cons,List.not_mem_nil,or_false] at hx
 rcases hx with h | h | h | h <;> rw [h]
 ·exact awake_sum
 ·exact ints_sum
 ·exact srt_sum
 ·exact serv_sum
end Go.Proofs.YtiehbnmpaeedpaaGreat.vc
