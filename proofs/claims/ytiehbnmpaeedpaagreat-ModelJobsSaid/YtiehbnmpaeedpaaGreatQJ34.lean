import Derived.Test.YtiehbnmpaeedpaaGreatRows
import Derived.Test.YtiehbnmpaeedpaaGreatQJ09
import Derived.Test.YtiehbnmpaeedpaaGreatQJ31
import Derived.Test.YtiehbnmpaeedpaaGreatQJ23
import Derived.KernelRfl
set_option linter.unusedVariables false
namespace Go.Proofs.YtiehbnmpaeedpaaGreat.vc0
open Go Go.AX Go.Proofs.YtiehbnmpaeedpaaGreat.vc
noncomputable section
def ov:Tr (List Value→Mem→Option (Value×Mem)):=Tr.put .nil n_slices_overlaps_model_Serv ovlA
def cx:Cx:=Cx.of Tryz.prog ov
theorem cxOk:CxOk Tryz.prog cx:=CxOk.of _ _
theorem ovK:cx.ov.get n_slices_overlaps_model_Serv=some ovlA:=by
 show ov.get _=_
 unfold ov
 rw [Tr.get_put,if_pos rfl]
theorem ovE {k:FuncId} {f:List Value→Mem→Option (Value×Mem)} (h:cx.ov.get k=some f):f=ovlA:=by
 have h:ov.get k=some f:=h
 unfold ov at h
 rw [Tr.get_put] at h
 split at h
 ·exact (Option.some.inj h).symm
 ·rw [Tr.get_nil] at h; cases h
theorem ovFr:OvFr cx:=fun k f h a u r u' e E m hb=>by
 have:=ovE h; subst this; exact ovlA_bes e E m hb
theorem ovNi:OvNi cx:=fun k f h a u r u' e hw=>by
 have:=ovE h; subst this; exact ovlA_nice e hw
theorem hmix:Tryz.prog.follows .mixedOrders=true:=by kernel_rfl
theorem ovlSum [Kap]:SumOk Tryz.prog n_slices_overlaps_model_Serv ovlA:=
 ovl_ok (fn:=Tryz.f76) (t:=t_sl_model_Serv) (tb:=t_bool) (e:=t_model_Serv) (s:=11) Tryz.func76 (by kernel_rfl) (by kernel_rfl) (by kernel_rfl) (by kernel_rfl) Tryz.underlying25 Tryz.sizeOf47
theorem ovOk [Kap]:OvOk Tryz.prog cx:=fun k f h=>
 ov_put (P:=Tryz.prog) (k:=n_slices_overlaps_model_Serv) (f:=ovlA) (t:=Tr.nil) ov_nil ovlSum k f h
end
end Go.Proofs.YtiehbnmpaeedpaaGreat.vc0
namespace Go.Proofs.YtiehbnmpaeedpaaGreat.vc0
open Go Go.AX Go.Proofs.YtiehbnmpaeedpaaGreat.vc
set_option maxRecDepth 100000
noncomputable section
def G_cmp_isNaN_int (a:Int) (m:Mem) (Q:Value→Mem→Prop):Prop:=
 Q (.bool (neI a a)) m
theorem G_cmp_isNaN_int_ok {a:Int} {m:Mem} {Q:Value→Mem→Prop} (h:G_cmp_isNaN_int a m Q):CallV cx n_cmp_isNaN_int [.int .i64 a] m Q:=
 CallV.of (fn:=Tryz.f116) (LS:=[]) (ann:=[]) ovFr ovNi (by kernel_rfl) (by kernel_rfl) (Eq.mp (by kernel_rfl) h)
def G_cmp_isNaN_int64 (a:Int) (m:Mem) (Q:Value→Mem→Prop):Prop:=
 Q (.bool (neI a a)) m
theorem G_cmp_isNaN_int64_ok {a:Int} {m:Mem} {Q:Value→Mem→Prop} (h:G_cmp_isNaN_int64 a m Q):CallV cx n_cmp_isNaN_int64 [.int .i64 a] m Q:=
 CallV.of (fn:=Tryz.f182) (LS:=[]) (ann:=[]) ovFr ovNi (by kernel_rfl) (by kernel_rfl) (Eq.mp (by kernel_rfl) h)
def G_cmp_Compare_int (c e:Int) (m:Mem) (Q:Value→Mem→Prop):Prop:=
 CallV cx n_cmp_isNaN_int [.int .i64 c] m fun g i=>∃ d,g=(.bool d)∧(CallV cx n_cmp_isNaN_int [.int .i64 e] i fun f a=>∃ b,f=(.bool b)∧splitB d (splitB b (Q (.int .i64 0) a) (Q (.int .i64 (-1:Int)) a)) (splitB b (Q (.int .i64 1) a) (splitB (ltI c e) (Q (.int .i64 (-1:Int)) a) (splitB (ltI e c) (Q (.int .i64 1) a) (Q (.int .i64 0) a)))))
theorem G_cmp_Compare_int_ok {c e:Int} {m:Mem} {Q:Value→Mem→Prop} (h:G_cmp_Compare_int c e m Q):CallV cx n_cmp_Compare_int [.int .i64 c,.int .i64 e] m Q:=
 CallV.of (fn:=Tryz.f69) (LS:=[]) (ann:=[]) ovFr ovNi (by kernel_rfl) (by kernel_rfl) (Eq.mp (by kernel_rfl) h)
def G_cmp_Compare_int64 (c e:Int) (m:Mem) (Q:Value→Mem→Prop):Prop:=
 CallV cx n_cmp_isNaN_int64 [.int .i64 c] m fun g i=>∃ d,g=(.bool d)∧(CallV cx n_cmp_isNaN_int64 [.int .i64 e] i fun f a=>∃ b,f=(.bool b)∧splitB d (splitB b (Q (.int .i64 0) a) (Q (.int .i64 (-1:Int)) a)) (splitB b (Q (.int .i64 1) a) (splitB (ltI c e) (Q (.int .i64 (-1:Int)) a) (splitB (ltI e c) (Q (.int .i64 1) a) (Q (.int .i64 0) a)))))
theorem G_cmp_Compare_int64_ok {c e:Int} {m:Mem} {Q:Value→Mem→Prop} (h:G_cmp_Compare_int64 c e m Q):CallV cx n_cmp_Compare_int64 [.int .i64 c,.int .i64 e] m Q:=
 CallV.of (fn:=Tryz.f168) (LS:=[]) (ann:=[]) ovFr ovNi (by kernel_rfl) (by kernel_rfl) (Eq.mp (by kernel_rfl) h)
def G_cmp_Or_int (l:Option Addr) (j n:Nat) (m:Mem) (Q:Value→Mem→Prop):Prop:=
 ∃ c:Int→Mem→Nat→Prop,(∃ k:Nat,c 0 m k)∧∀ a b e,c a b e→splitB (ltI a (lenI j)) ((0≤a∧a < ((j:Nat):Int))∧(vPtr l fun g i=>∃ d,rd b g (i+Int.toNat a*1)=some (.int .i64 d)∧splitB (neI d 0) (Q (.int .i64 d) b) (∃ f:Nat,f < e∧c (addI .i64 a 1) b f))) (Q (.int .i64 0) b)
theorem G_cmp_Or_int_ok {l:Option Addr} {j n:Nat} {m:Mem} {Q:Value→Mem→Prop} (h:G_cmp_Or_int l j n m Q):CallV cx n_cmp_Or_int [.slice l j n] m Q:=
 CallV.of (fn:=Tryz.f167) (LS:=[]) (ann:=[none,none,none,none,some ⟨[3,6,7],[(8,.int .i64)],[],[],[],0⟩]) ovFr ovNi (by kernel_rfl) (by kernel_rfl) (Eq.mp (by kernel_rfl) h)
def G_edf_compare (l o p n:Int) (q r:Bool) (m:Mem) (Q:Value→Mem→Prop):Prop:=
 CallV cx n_cmp_Compare_int64 [.int .i64 o,.int .i64 n] (setFl (bump m 15) (bump m 2).nx) fun d j=>∃ c,d=(.int .i64 c)∧(CallV cx n_cmp_Compare_int [.int .i64 l,.int .i64 p] (setFl j (bump m 15).fl) fun i f=>∃ b,i=(.int .i64 b)∧(CallV cx n_cmp_Or_int [.slice (some ⟨((bump m 2).nx+10),0,none⟩) 2 2] (addO f ((bump m 2).nx+10) (row [.int .i64 c,.int .i64 b] t_int false)) fun e g=>∃ a,e=(.int .i64 a)∧(mBind g fun k=>Q (.int .i64 a) k)))
theorem G_edf_compare_ok {l o p n:Int} {q r:Bool} {m:Mem} {Q:Value→Mem→Prop} (h:G_edf_compare l o p n q r m Q):CallV cx n_edf_compare [.agg #[.int .i64 l,.int .i64 o,.bool q],.agg #[.int .i64 p,.int .i64 n,.bool r]] m Q:=
 CallV.of (fn:=Tryz.f149) (LS:=[2,3]) (ann:=[]) ovFr ovNi (by kernel_rfl) (by kernel_rfl) (Eq.mp (by kernel_rfl) h)
def G_edf_order_1 (l o p n:Int) (b f:Bool) (m:Mem) (Q:Value→Mem→Prop):Prop:=
 joinK (fun (k:Mem)=>CallV cx n_edf_compare [.agg #[.int .i64 l,.int .i64 o,.bool b],.agg #[.int .i64 p,.int .i64 n,.bool f]] k fun j i=>∃ d,j=(.int .i64 d)∧Q (.int .i64 d) i) fun c=>joinK (fun (g:Bool) (a:Mem)=>splitB g (Q (.int .i64 (-1:Int)) a) (splitB f (splitB (!b) (Q (.int .i64 1) a) (c a)) (c a))) fun e=>splitB b (e (!f) (bump m 2)) (e false (bump m 2))
theorem G_edf_order_1_ok {l o p n:Int} {b f:Bool} {m:Mem} {Q:Value→Mem→Prop} (h:G_edf_order_1 l o p n b f m Q):CallV cx n_edf_order_1 [.agg #[.int .i64 l,.int .i64 o,.bool b],.agg #[.int .i64 p,.int .i64 n,.bool f]] m Q:=
 CallV.of (fn:=Tryz.f148) (LS:=[2,3]) (ann:=[none,some ⟨[],[],[(2,0,0),(3,1,0)],[0,1],[],3⟩,some ⟨[],[(5,.bool)],[(2,0,0),(3,1,0)],[0,1],[],2⟩]) ovFr ovNi (by kernel_rfl) (by kernel_rfl) (Eq.mp (by kernel_rfl) h)
def G_slices_Insert_sl_model_Serv (g n:Option Addr) (b i a k:Nat) (c:Int) (m:Mem) (Q:Value→Mem→Prop):Prop:=
 ∃ ar aj al,sliceOp cx m t_sl_model_Serv (.slice g b i) (some (.int .i64 c)) none none=some (.slice ar aj al)∧splitB (eqI (lenI a) 0) (Q (.slice g b i) m) (splitB (eqI c (lenI b)) (∃ w W af ag,appendA cx m [t_sl_model_Serv,t_sl_model_Serv] [.slice g b i,.slice n a k]=some (.slice w W af,ag)∧Q (.slice w W af) ag) (∃ H,capA cx m [t_sl_model_Serv] [.slice g b i]=some (.int .i64 H)∧splitB (ltI H (addI .i64 (lenI b) (lenI a))) (∃ Y K M,sliceOp cx m t_sl_model_Serv (.slice g b i) none (some (.int .i64 c)) none=some (.slice Y K M)∧∃ q l o r,appendA cx m [t_sl_model_Serv,t_int] [.slice Y K M,.int .i64 (subI .i64 (addI .i64 (lenI b) (lenI a)) c)]=some (.slice q l o,r)∧∃ C u X,sliceOp cx r t_sl_model_Serv (.slice q l o) (some (.int .i64 c)) none none=some (.slice C u X)∧∃ an p,copyA cx r [t_sl_model_Serv,t_sl_model_Serv] [.slice C u X,.slice n a k]=some (.int .i64 an,p)∧∃ I L U,sliceOp cx (bump p 9) t_sl_model_Serv (.slice q l o) (some (.int .i64 (addI .i64 c (lenI a)))) none none=some (.slice I L U)∧∃ G D ab,sliceOp cx (bump p 9) t_sl_model_Serv (.slice g b i) (some (.int .i64 c)) none none=some (.slice G D ab)∧∃ ap S,copyA cx (bump p 9) [t_sl_model_Serv,t_sl_model_Serv] [.slice I L U,.slice G D ab]=some (.int .i64 ap,S)∧Q (.slice q l o) S) (∃ f e d,sliceOp cx m t_sl_model_Serv (.slice g b i) none (some (.int .i64 (addI .i64 (lenI b) (lenI a)))) none=some (.slice f e d)∧∃ O E ac,sliceOp cx m t_sl_model_Serv (.slice f e d) (some (.int .i64 (addI .i64 c (lenI a)))) none none=some (.slice O E ac)∧(CallV cx n_slices_overlaps_model_Serv [.slice n a k,.slice O E ac] m fun au j=>∃ T,au=(.bool T)∧splitB (!T) (∃ F A N,sliceOp cx (bump j 9) t_sl_model_Serv (.slice f e d) (some (.int .i64 (addI .i64 c (lenI a)))) none none=some (.slice F A N)∧∃ B aa y,sliceOp cx (bump j 9) t_sl_model_Serv (.slice f e d) (some (.int .i64 c)) none none=some (.slice B aa y)∧∃ ak s,copyA cx (bump j 9) [t_sl_model_Serv,t_sl_model_Serv] [.slice F A N,.slice B aa y]=some (.int .i64 ak,s)∧∃ Z x V,sliceOp cx s t_sl_model_Serv (.slice f e d) (some (.int .i64 c)) none none=some (.slice Z x V)∧∃ av P,copyA cx s [t_sl_model_Serv,t_sl_model_Serv] [.slice Z x V,.slice n a k]=some (.int .i64 av,P)∧Q (.slice f e d) P) (∃ ae ai z,sliceOp cx j t_sl_model_Serv (.slice f e d) (some (.int .i64 (lenI b))) none none=some (.slice ae ai z)∧∃ ao t,copyA cx j [t_sl_model_Serv,t_sl_model_Serv] [.slice ae ai z,.slice n a k]=some (.int .i64 ao,t)∧∃ R v ad,sliceOp cx t t_sl_model_Serv (.slice f e d) (some (.int .i64 c)) none none=some (.slice R v ad)∧(CallV cx n_slices_rotateRight_model_Serv [.slice R v ad,.int .i64 (lenI a)] t fun aq aw=>aq=(.tuple #[])∧Q (.slice f e d) aw))))))
theorem G_slices_Insert_sl_model_Serv_ok {g n:Option Addr} {b i a k:Nat} {c:Int} {m:Mem} {Q:Value→Mem→Prop} (h:G_slices_Insert_sl_model_Serv g n b i a k c m Q):CallV cx n_slices_Insert_sl_model_Serv [.slice g b i,.int .i64 c,.slice n a k] m Q:=
 CallV.of (fn:=Tryz.f35) (LS:=[]) (ann:=[]) ovFr ovNi (by kernel_rfl) (by kernel_rfl) (Eq.mp (by kernel_rfl) h)
end
end Go.Proofs.YtiehbnmpaeedpaaGreat.vc0
