import Derived.Test.YtiehbnmpaeedpaaGreatRows
import Derived.Test.YtiehbnmpaeedpaaGreatQB09
import Derived.Test.YtiehbnmpaeedpaaGreatQB31
import Derived.Test.YtiehbnmpaeedpaaGreatQB23
import Derived.KernelRfl
namespace Go.Proofs.YtiehbnmpaeedpaaGreat.vc0
open Go Go.AX Go.Proofs.YtiehbnmpaeedpaaGreat.vc
noncomputable section
def ov:Tr (List Value→Mem→Option (Value×Mem)):=Tr.put .nil n_slices_overlaps_model_Serv ovlA
def cx:Cx:=Cx.of Tryz.prog ov
theorem cxOk:CxOk Tryz.prog cx:=CxOk.of _ _
theorem ovK:cx.ov.get n_slices_overlaps_model_Serv=some ovlA:=by
 show ov.get _=_
 unfold ov
 rw [Tr.get_put,if_pos rfl]
theorem ovE {k:FuncId} {f:List Value→Mem→Option (Value×Mem)} (h:cx.ov.get k=some f):f=ovlA:=by
 have h:ov.get k=some f:=h
 unfold ov at h
 rw [Tr.get_put] at h
 split at h
 ·exact (Option.some.inj h).symm
 ·rw [Tr.get_nil] at h; cases h
theorem ovFr:OvFr cx:=fun k f h a u r u' e E m hb=>by
 have:=ovE h; subst this; exact ovlA_bes e E m hb
theorem ovNi:OvNi cx:=fun k f h a u r u' e hw=>by
 have:=ovE h; subst this; exact ovlA_nice e hw
theorem hmix:Tryz.prog.follows .mixedOrders=true:=by kernel_rfl
theorem ovlSum [Kap]:SumOk Tryz.prog n_slices_overlaps_model_Serv ovlA:=
 ovl_ok (fn:=Tryz.f76) (t:=t_sl_model_Serv) (tb:=t_bool) (e:=t_model_Serv) (s:=11) Tryz.func76 (by kernel_rfl) (by kernel_rfl) (by kernel_rfl) (by kernel_rfl) Tryz.underlying25 Tryz.sizeOf47
theorem ovOk [Kap]:OvOk Tryz.prog cx:=fun k f h=>
 ov_put (P:=Tryz.prog) (k:=n_slices_overlaps_model_Serv) (f:=ovlA) (t:=Tr.nil) ov_nil ovlSum k f h
end
end Go.Proofs.YtiehbnmpaeedpaaGreat.vc0
namespace Go.Proofs.YtiehbnmpaeedpaaGreat.vc0
open Go Go.AX Go.Proofs.YtiehbnmpaeedpaaGreat.vc
set_option linter.unusedVariables false
set_option maxRecDepth 100000
noncomputable section
def G_cmp_isNaN_int (a:Int) (m:Mem) (Q:Value→Mem→Prop):Prop:=
 Q (.bool (neI a a)) m
theorem G_cmp_isNaN_int_ok {a:Int} {m:Mem} {Q:Value→Mem→Prop} (h:G_cmp_isNaN_int a m Q):CallV cx n_cmp_isNaN_int [.int .i64 a] m Q:=
 CallV.of (fn:=Tryz.f116) (LS:=[]) (ann:=[]) ovFr ovNi (by kernel_rfl) (by kernel_rfl) (Eq.mp (by kernel_rfl) h)
def G_cmp_isNaN_int64 (a:Int) (m:Mem) (Q:Value→Mem→Prop):Prop:=
 Q (.bool (neI a a)) m
theorem G_cmp_isNaN_int64_ok {a:Int} {m:Mem} {Q:Value→Mem→Prop} (h:G_cmp_isNaN_int64 a m Q):CallV cx n_cmp_isNaN_int64 [.int .i64 a] m Q:=
 CallV.of (fn:=Tryz.f182) (LS:=[]) (ann:=[]) ovFr ovNi (by kernel_rfl) (by kernel_rfl) (Eq.mp (by kernel_rfl) h)
def G_cmp_Compare_int (c e:Int) (m:Mem) (Q:Value→Mem→Prop):Prop:=
 CallV cx n_cmp_isNaN_int [.int .i64 c] m fun g i=>∃ d,g=(.bool d)∧(CallV cx n_cmp_isNaN_int [.int .i64 e] i fun f a=>∃ b,f=(.bool b)∧splitB d (splitB b (Q (.int .i64 0) a) (Q (.int .i64 (-1:Int)) a)) (splitB b (Q (.int .i64 1) a) (splitB (ltI c e) (Q (.int .i64 (-1:Int)) a) (splitB (ltI e c) (Q (.int .i64 1) a) (Q (.int .i64 0) a)))))
theorem G_cmp_Compare_int_ok {c e:Int} {m:Mem} {Q:Value→Mem→Prop} (h:G_cmp_Compare_int c e m Q):CallV cx n_cmp_Compare_int [.int .i64 c,.int .i64 e] m Q:=
 CallV.of (fn:=Tryz.f69) (LS:=[]) (ann:=[]) ovFr ovNi (by kernel_rfl) (by kernel_rfl) (Eq.mp (by kernel_rfl) h)
def G_cmp_Compare_int64 (c e:Int) (m:Mem) (Q:Value→Mem→Prop):Prop:=
 CallV cx n_cmp_isNaN_int64 [.int .i64 c] m fun g i=>∃ d,g=(.bool d)∧(CallV cx n_cmp_isNaN_int64 [.int .i64 e] i fun f a=>∃ b,f=(.bool b)∧splitB d (splitB b (Q (.int .i64 0) a) (Q (.int .i64 (-1:Int)) a)) (splitB b (Q (.int .i64 1) a) (splitB (ltI c e) (Q (.int .i64 (-1:Int)) a) (splitB (ltI e c) (Q (.int .i64 1) a) (Q (.int .i64 0) a)))))
theorem G_cmp_Compare_int64_ok {c e:Int} {m:Mem} {Q:Value→Mem→Prop} (h:G_cmp_Compare_int64 c e m Q):CallV cx n_cmp_Compare_int64 [.int .i64 c,.int .i64 e] m Q:=
 CallV.of (fn:=Tryz.f168) (LS:=[]) (ann:=[]) ovFr ovNi (by kernel_rfl) (by kernel_rfl) (Eq.mp (by kernel_rfl) h)
def G_cmp_Or_int (l:Option Addr) (i n:Nat) (m:Mem) (Q:Value→Mem→Prop):Prop:=
 ∃ d:Int→Mem→Nat→Prop,(∃ j:Nat,d 0 m j)∧∀ a b e,d a b e→splitB (ltI a (lenI i)) ((0≤a∧a < ((i:Nat):Int))∧(vPtr l fun g k=>∃ c,rd b g (k+Int.toNat a*1)=some (.int .i64 c)∧splitB (neI c 0) (Q (.int .i64 c) b) (∃ f:Nat,f < e∧d (addI .i64 a 1) b f))) (Q (.int .i64 0) b)
theorem G_cmp_Or_int_ok {l:Option Addr} {i n:Nat} {m:Mem} {Q:Value→Mem→Prop} (h:G_cmp_Or_int l i n m Q):CallV cx n_cmp_Or_int [.slice l i n] m Q:=
 CallV.of (fn:=Tryz.f167) (LS:=[]) (ann:=[none,none,none,none,some ⟨[3,6,7],[(8,.int .i64)],[],[],[],0⟩]) ovFr ovNi (by kernel_rfl) (by kernel_rfl) (Eq.mp (by kernel_rfl) h)
def G_edf_compare (l p o n:Int) (q r:Bool) (m:Mem) (Q:Value→Mem→Prop):Prop:=
 CallV cx n_cmp_Compare_int64 [.int .i64 p,.int .i64 n] (setFl (bump m 15) (bump m 2).nx) fun i g=>∃ b,i=(.int .i64 b)∧(CallV cx n_cmp_Compare_int [.int .i64 l,.int .i64 o] (setFl g (bump m 15).fl) fun d k=>∃ a,d=(.int .i64 a)∧(CallV cx n_cmp_Or_int [.slice (some ⟨((bump m 2).nx+10),0,none⟩) 2 2] (addO k ((bump m 2).nx+10) (row [.int .i64 b,.int .i64 a] t_int false)) fun f e=>∃ c,f=(.int .i64 c)∧(mBind e fun j=>Q (.int .i64 c) j)))
theorem G_edf_compare_ok {l p o n:Int} {q r:Bool} {m:Mem} {Q:Value→Mem→Prop} (h:G_edf_compare l p o n q r m Q):CallV cx n_edf_compare [.agg #[.int .i64 l,.int .i64 p,.bool q],.agg #[.int .i64 o,.int .i64 n,.bool r]] m Q:=
 CallV.of (fn:=Tryz.f149) (LS:=[2,3]) (ann:=[]) ovFr ovNi (by kernel_rfl) (by kernel_rfl) (Eq.mp (by kernel_rfl) h)
def G_edf_order_1 (l p o n:Int) (b f:Bool) (m:Mem) (Q:Value→Mem→Prop):Prop:=
 joinK (fun (i:Mem)=>CallV cx n_edf_compare [.agg #[.int .i64 l,.int .i64 p,.bool b],.agg #[.int .i64 o,.int .i64 n,.bool f]] i fun j k=>∃ c,j=(.int .i64 c)∧Q (.int .i64 c) k) fun d=>joinK (fun (g:Bool) (a:Mem)=>splitB g (Q (.int .i64 (-1:Int)) a) (splitB f (splitB (!b) (Q (.int .i64 1) a) (d a)) (d a))) fun e=>splitB b (e (!f) (bump m 2)) (e false (bump m 2))
theorem G_edf_order_1_ok {l p o n:Int} {b f:Bool} {m:Mem} {Q:Value→Mem→Prop} (h:G_edf_order_1 l p o n b f m Q):CallV cx n_edf_order_1 [.agg #[.int .i64 l,.int .i64 p,.bool b],.agg #[.int .i64 o,.int .i64 n,.bool f]] m Q:=
 CallV.of (fn:=Tryz.f148) (LS:=[2,3]) (ann:=[none,some ⟨[],[],[(2,0,0),(3,1,0)],[0,1],[],3⟩,some ⟨[],[(5,.bool)],[(2,0,0),(3,1,0)],[0,1],[],2⟩]) ovFr ovNi (by kernel_rfl) (by kernel_rfl) (Eq.mp (by kernel_rfl) h)
def G_slices_Insert_sl_model_Serv (g o:Option Addr) (b i a p:Nat) (c:Int) (m:Mem) (Q:Value→Mem→Prop):Prop:=
 ∃ ap av aq,sliceOp cx m t_sl_model_Serv (.slice g b i) (some (.int .i64 c)) none none=some (.slice ap av aq)∧splitB (eqI (lenI a) 0) (Q (.slice g b i) m) (splitB (eqI c (lenI b)) (∃ ac E A N,appendA cx m [t_sl_model_Serv,t_sl_model_Serv] [.slice g b i,.slice o a p]=some (.slice ac E A,N)∧Q (.slice ac E A) N) (∃ W,capA cx m [t_sl_model_Serv] [.slice g b i]=some (.int .i64 W)∧splitB (ltI W (addI .i64 (lenI b) (lenI a))) (∃ Z C x,sliceOp cx m t_sl_model_Serv (.slice g b i) none (some (.int .i64 c)) none=some (.slice Z C x)∧∃ k q l t,appendA cx m [t_sl_model_Serv,t_int] [.slice Z C x,.int .i64 (subI .i64 (addI .i64 (lenI b) (lenI a)) c)]=some (.slice k q l,t)∧∃ L K X,sliceOp cx t t_sl_model_Serv (.slice k q l) (some (.int .i64 c)) none none=some (.slice L K X)∧∃ ar n,copyA cx t [t_sl_model_Serv,t_sl_model_Serv] [.slice L K X,.slice o a p]=some (.int .i64 ar,n)∧∃ I z D,sliceOp cx (bump n 9) t_sl_model_Serv (.slice k q l) (some (.int .i64 (addI .i64 c (lenI a)))) none none=some (.slice I z D)∧∃ v u ab,sliceOp cx (bump n 9) t_sl_model_Serv (.slice g b i) (some (.int .i64 c)) none none=some (.slice v u ab)∧∃ ak ai,copyA cx (bump n 9) [t_sl_model_Serv,t_sl_model_Serv] [.slice I z D,.slice v u ab]=some (.int .i64 ak,ai)∧Q (.slice k q l) ai) (∃ d f e,sliceOp cx m t_sl_model_Serv (.slice g b i) none (some (.int .i64 (addI .i64 (lenI b) (lenI a)))) none=some (.slice d f e)∧∃ aa ad Y,sliceOp cx m t_sl_model_Serv (.slice d f e) (some (.int .i64 (addI .i64 c (lenI a)))) none none=some (.slice aa ad Y)∧(CallV cx n_slices_overlaps_model_Serv [.slice o a p,.slice aa ad Y] m fun aj j=>∃ T,aj=(.bool T)∧splitB (!T) (∃ M af S,sliceOp cx (bump j 9) t_sl_model_Serv (.slice d f e) (some (.int .i64 (addI .i64 c (lenI a)))) none none=some (.slice M af S)∧∃ ag ae y,sliceOp cx (bump j 9) t_sl_model_Serv (.slice d f e) (some (.int .i64 c)) none none=some (.slice ag ae y)∧∃ au r,copyA cx (bump j 9) [t_sl_model_Serv,t_sl_model_Serv] [.slice M af S,.slice ag ae y]=some (.int .i64 au,r)∧∃ V O G,sliceOp cx r t_sl_model_Serv (.slice d f e) (some (.int .i64 c)) none none=some (.slice V O G)∧∃ al w,copyA cx r [t_sl_model_Serv,t_sl_model_Serv] [.slice V O G,.slice o a p]=some (.int .i64 al,w)∧Q (.slice d f e) w) (∃ U B P,sliceOp cx j t_sl_model_Serv (.slice d f e) (some (.int .i64 (lenI b))) none none=some (.slice U B P)∧∃ an s,copyA cx j [t_sl_model_Serv,t_sl_model_Serv] [.slice U B P,.slice o a p]=some (.int .i64 an,s)∧∃ R F H,sliceOp cx s t_sl_model_Serv (.slice d f e) (some (.int .i64 c)) none none=some (.slice R F H)∧(CallV cx n_slices_rotateRight_model_Serv [.slice R F H,.int .i64 (lenI a)] s fun aw ao=>aw=(.tuple #[])∧Q (.slice d f e) ao))))))
theorem G_slices_Insert_sl_model_Serv_ok {g o:Option Addr} {b i a p:Nat} {c:Int} {m:Mem} {Q:Value→Mem→Prop} (h:G_slices_Insert_sl_model_Serv g o b i a p c m Q):CallV cx n_slices_Insert_sl_model_Serv [.slice g b i,.int .i64 c,.slice o a p] m Q:=
 CallV.of (fn:=Tryz.f35) (LS:=[]) (ann:=[]) ovFr ovNi (by kernel_rfl) (by kernel_rfl) (Eq.mp (by kernel_rfl) h)
end
end Go.Proofs.YtiehbnmpaeedpaaGreat.vc0
