import Derived.Test.YtiehbnmpaeedpaaGreatQJ34
import Derived.Test.YtiehbnmpaeedpaaGreatQJ01
import Derived.Test.YtiehbnmpaeedpaaGreatQJ22
import Derived.Test.YtiehbnmpaeedpaaGreatQJ24
import Derived.Test.YtiehbnmpaeedpaaGreatQJ32
import Derived.KernelRfl
import Derived.Test.YtiehbnmpaeedpaaGreatQJ27
import Derived.Test.YtiehbnmpaeedpaaGreatQJ25
set_option linter.unusedVariables false
set_option linter.unusedSimpArgs false
namespace Go.Proofs.YtiehbnmpaeedpaaGreat.vc
open Go Go.AX
noncomputable section
def encE (x:pl.E):List Value:=[.int .i64 x.1,.int .i64 x.2.1,.bool x.2.2]
def decE:List Value→Option (List pl.E)
 | []=>some []
 | .int .i64 a :: .int .i64 b :: .bool c :: r=>match decE r with
  | some l=>some ((a,b,c) :: l)
  | none=>none
 | _=>none
theorem decE_flat:∀ l:List pl.E,decE (l.flatMap encE)=some l
 | []=>rfl
 | (a,b,c) :: l=>by
  show (match decE (l.flatMap encE) with | some l=>some ((a,b,c) :: l) | none=>none)=_
  rw [decE_flat l]
theorem decE_eq {l:List Value} {xs:List pl.E} (h:decE l=some xs):l=xs.flatMap encE:=by
 fun_induction decE l generalizing xs with
 | case1=>cases h; rfl
 | case2 a b c r l hl ih=>
  cases h
  rw [ih hl]; rfl
 | case3=>cases h
 | case4=>cases h
def srtA:List Value→Mem→Option (Value×Mem):=rowA 3 (anewK encE decE pl.srt) [.func (.func n_edf_order_1) #[] #[]]
def intsA:List Value→Mem→Option (Value×Mem):=rowA 1 anewI []
def servA:List Value→Mem→Option (Value×Mem):=insA vc0.cx t_sl_model_Serv t_model_Serv 11 104
def ovl:List (Nat×(List Value→Mem→Option (Value×Mem))):=[(n_law_awake,trueA),(n_slices_Sort_sl_int,intsA),(n_slices_SortFunc_sl_edf_Ent,srtA),(n_slices_Insert_sl_model_Serv,servA)]
def ov:Tr (List Value→Mem→Option (Value×Mem)):=ovl.foldr (fun x t=>t.put x.1 x.2) .nil
def cx:Cx:=Cx.of Tryz.prog ov
theorem cxOk:CxOk Tryz.prog cx:=CxOk.of _ _
theorem ov_awake:cx.ov.get n_law_awake=some trueA:=by
 show (ovl.foldr (fun x t=>Tr.put t x.1 x.2) .nil).get _=_
 simp only [ovl,List.foldr_cons,List.foldr_nil,Tr.get_put]; rfl
theorem ov_ints:cx.ov.get n_slices_Sort_sl_int=some intsA:=by
 show (ovl.foldr (fun x t=>Tr.put t x.1 x.2) .nil).get _=_
 simp only [ovl,List.foldr_cons,List.foldr_nil,Tr.get_put]; rfl
theorem ov_srt:cx.ov.get n_slices_SortFunc_sl_edf_Ent=some srtA:=by
 show (ovl.foldr (fun x t=>Tr.put t x.1 x.2) .nil).get _=_
 simp only [ovl,List.foldr_cons,List.foldr_nil,Tr.get_put]; rfl
theorem ov_serv:cx.ov.get n_slices_Insert_sl_model_Serv=some servA:=by
 show (ovl.foldr (fun x t=>Tr.put t x.1 x.2) .nil).get _=_
 simp only [ovl,List.foldr_cons,List.foldr_nil,Tr.get_put]; rfl
theorem ovE:cx.ov=ovl.foldr (fun x t=>Tr.put t x.1 x.2) .nil:=rfl
theorem srtA_fr:FrF srtA:=rowA_fr
theorem srtA_ni:NiF srtA:=rowA_ni
theorem intsA_fr:FrF intsA:=rowA_fr
theorem intsA_ni:NiF intsA:=rowA_ni
theorem servA_fr:FrF servA:=insA_fr
theorem servA_ni:NiF servA:=insA_ni
theorem ovFr:OvFr cx:=ovFr_list ovE fun x hx=>by
 simp only [ovl,List.mem_cons,List.not_mem_nil,or_false] at hx
 rcases hx with h | h | h | h <;> rw [h]
 ·exact trueA_fr
 ·exact intsA_fr
 ·exact srtA_fr
 ·exact servA_fr
theorem ovNi:OvNi cx:=ovNi_list ovE fun x hx=>by
 simp only [ovl,List.mem_cons,List.not_mem_nil,or_false] at hx
 rcases hx with h | h | h | h <;> rw [h]
 ·exact trueA_ni
 ·exact intsA_ni
 ·exact srtA_ni
 ·exact servA_ni
end
end Go.Proofs.YtiehbnmpaeedpaaGreat.vc
namespace Go.Proofs.YtiehbnmpaeedpaaGreat.vc
open Go Go.AX
set_option maxRecDepth 100000
noncomputable section
def G_tick_Good (a:Int) (m:Mem) (Q:Value→Mem→Prop):Prop:=
 splitB (leI 0 a) (Q (.bool (leI a 4611686018427387904)) m) (Q (.bool false) m)
theorem G_tick_Good_ok {a:Int} {m:Mem} {Q:Value→Mem→Prop} (h:G_tick_Good a m Q):CallV cx n_tick_Good [.int .i64 a] m Q:=
 CallV.of (fn:=Tryz.f82) (LS:=[]) (ann:=[]) ovFr ovNi (by kernel_rfl) (by kernel_rfl) (Eq.mp (by kernel_rfl) h)
def G_tick_good (c:Int) (m:Mem) (Q:Value→Mem→Prop):Prop:=
 CallV cx n_tick_Good [.int .i64 c] m fun d b=>∃ a,d=(.bool a)∧splitB (!a) (Q (.tuple #[.int .i64 0,.bool false]) b) (Q (.tuple #[.int .i64 c,.bool true]) b)
theorem G_tick_good_ok {c:Int} {m:Mem} {Q:Value→Mem→Prop} (h:G_tick_good c m Q):CallV cx n_tick_good [.int .i64 c] m Q:=
 CallV.of (fn:=Tryz.f120) (LS:=[]) (ann:=[]) ovFr ovNi (by kernel_rfl) (by kernel_rfl) (Eq.mp (by kernel_rfl) h)
def G_tick_in (a c b:Int) (m:Mem) (Q:Value→Mem→Prop):Prop:=
 splitB (leI c a) (Q (.bool (leI a b)) m) (Q (.bool false) m)
theorem G_tick_in_ok {a c b:Int} {m:Mem} {Q:Value→Mem→Prop} (h:G_tick_in a c b m Q):CallV cx n_tick_in [.int .i64 a,.int .i64 c,.int .i64 b] m Q:=
 CallV.of (fn:=Tryz.f121) (LS:=[]) (ann:=[]) ovFr ovNi (by kernel_rfl) (by kernel_rfl) (Eq.mp (by kernel_rfl) h)
def G_tick_Add (j n:Int) (m:Mem) (Q:Value→Mem→Prop):Prop:=
 joinK (fun (p:Mem)=>CallV cx n_tick_good [.int .i64 (addI .i64 j n)] p fun o k=>∃ b d,o=(.tuple #[.int .i64 b,.bool d])∧Q (.tuple #[.int .i64 b,.bool d]) k) fun i=>CallV cx n_tick_Good [.int .i64 j] m fun g c=>∃ f,g=(.bool f)∧splitB (!f) (Q (.tuple #[.int .i64 0,.bool false]) c) (CallV cx n_tick_Good [.int .i64 n] c fun l e=>∃ a,l=(.bool a)∧splitB (!a) (Q (.tuple #[.int .i64 0,.bool false]) e) (i e))
theorem G_tick_Add_ok {j n:Int} {m:Mem} {Q:Value→Mem→Prop} (h:G_tick_Add j n m Q):CallV cx n_tick_Add [.int .i64 j,.int .i64 n] m Q:=
 CallV.of (fn:=Tryz.f83) (LS:=[]) (ann:=[none,some ⟨[0,1],[],[],[],[],0⟩]) ovFr ovNi (by kernel_rfl) (by kernel_rfl) (Eq.mp (by kernel_rfl) h)
def G_tick_Share (l n a:Int) (m:Mem) (Q:Value→Mem→Prop):Prop:=
 joinK (fun (o:Mem)=>a≠0∧Q (.tuple #[.int .i64 (quoI .i64 (mulI .i64 l n) a),.bool true]) o) fun j=>CallV cx n_tick_in [.int .i64 l,.int .i64 0,.int .i64 2147483648] m fun i d=>∃ b,i=(.bool b)∧splitB (!b) (Q (.tuple #[.int .i64 0,.bool false]) d) (CallV cx n_tick_in [.int .i64 a,.int .i64 1,.int .i64 2147483648] d fun k e=>∃ c,k=(.bool c)∧splitB (!c) (Q (.tuple #[.int .i64 0,.bool false]) e) (CallV cx n_tick_in [.int .i64 n,.int .i64 0,.int .i64 a] e fun p f=>∃ g,p=(.bool g)∧splitB (!g) (Q (.tuple #[.int .i64 0,.bool false]) f) (j f)))
theorem G_tick_Share_ok {l n a:Int} {m:Mem} {Q:Value→Mem→Prop} (h:G_tick_Share l n a m Q):CallV cx n_tick_Share [.int .i64 l,.int .i64 n,.int .i64 a] m Q:=
 CallV.of (fn:=Tryz.f85) (LS:=[]) (ann:=[none,some ⟨[0,1,2],[],[],[],[],0⟩]) ovFr ovNi (by kernel_rfl) (by kernel_rfl) (Eq.mp (by kernel_rfl) h)
def G_tick_Up (g a b:Int) (m:Mem) (Q:Value→Mem→Prop):Prop:=
 joinK (fun (n:Mem)=>splitB (ltI g a) (Q (.tuple #[.int .i64 a,.bool true]) n) (b≠0∧(CallV cx n_tick_good [.int .i64 (addI .i64 a (mulI .i64 (addI .i64 (quoI .i64 (subI .i64 g a) b) 1) b))] n fun s r=>∃ e d,s=(.tuple #[.int .i64 e,.bool d])∧Q (.tuple #[.int .i64 e,.bool d]) r))) fun o=>CallV cx n_tick_Good [.int .i64 g] m fun q j=>∃ f,q=(.bool f)∧splitB (!f) (Q (.tuple #[.int .i64 0,.bool false]) j) (CallV cx n_tick_Good [.int .i64 a] j fun p k=>∃ i,p=(.bool i)∧splitB (!i) (Q (.tuple #[.int .i64 0,.bool false]) k) (CallV cx n_tick_in [.int .i64 b,.int .i64 1,.int .i64 2147483648] k fun t l=>∃ c,t=(.bool c)∧splitB (!c) (Q (.tuple #[.int .i64 0,.bool false]) l) (o l)))
theorem G_tick_Up_ok {g a b:Int} {m:Mem} {Q:Value→Mem→Prop} (h:G_tick_Up g a b m Q):CallV cx n_tick_Up [.int .i64 g,.int .i64 a,.int .i64 b] m Q:=
 CallV.of (fn:=Tryz.f93) (LS:=[]) (ann:=[none,some ⟨[0,1,2],[],[],[],[],0⟩]) ovFr ovNi (by kernel_rfl) (by kernel_rfl) (Eq.mp (by kernel_rfl) h)
def G_cbs_pair (b a:Int) (m:Mem) (Q:Value→Mem→Prop):Prop:=
 splitB (leI 1 a) (splitB (leI a 2147483648) (splitB (leI 1 b) (Q (.bool (leI b a)) m) (Q (.bool false) m)) (Q (.bool false) m)) (Q (.bool false) m)
theorem G_cbs_pair_ok {b a:Int} {m:Mem} {Q:Value→Mem→Prop} (h:G_cbs_pair b a m Q):CallV cx n_cbs_pair [.int .i64 b,.int .i64 a] m Q:=
 CallV.of (fn:=Tryz.f70) (LS:=[]) (ann:=[]) ovFr ovNi (by kernel_rfl) (by kernel_rfl) (Eq.mp (by kernel_rfl) h)
def G_cbs_New (d e:Int) (m:Mem) (Q:Value→Mem→Prop):Prop:=
 CallV cx n_cbs_pair [.int .i64 d,.int .i64 e] (bump m 1) fun c b=>∃ a,c=(.bool a)∧splitB (!a) (Q (.tuple #[.agg #[.int .i64 0,.int .i64 0,.int .i64 0,.int .i64 0,.int .i64 0],.int .i64 1]) b) (Q (.tuple #[.agg #[.int .i64 d,.int .i64 e,.int .i64 0,.int .i64 0,.int .i64 0],.int .i64 0]) b)
theorem G_cbs_New_ok {d e:Int} {m:Mem} {Q:Value→Mem→Prop} (h:G_cbs_New d e m Q):CallV cx n_cbs_New [.int .i64 d,.int .i64 e] m Q:=
 CallV.of (fn:=Tryz.f33) (LS:=[4]) (ann:=[]) ovFr ovNi (by kernel_rfl) (by kernel_rfl) (Eq.mp (by kernel_rfl) h)
def G_cbs_Good (j k e l d:Int) (m:Mem) (Q:Value→Mem→Prop):Prop:=
 CallV cx n_cbs_pair [.int .i64 j,.int .i64 k] (bump m 1) fun g b=>∃ f,g=(.bool f)∧splitB f (splitB (leI 0 e) (splitB (leI e j) (CallV cx n_tick_Good [.int .i64 l] b fun i a=>∃ c,i=(.bool c)∧splitB c (splitB (leI 0 d) (splitB (leI d 2) (splitB (neI d 1) (Q (.bool true) a) (Q (.bool (ltI 0 e)) a)) (Q (.bool false) a)) (Q (.bool false) a)) (Q (.bool false) a)) (Q (.bool false) b)) (Q (.bool false) b)) (Q (.bool false) b)
theorem G_cbs_Good_ok {j k e l d:Int} {m:Mem} {Q:Value→Mem→Prop} (h:G_cbs_Good j k e l d m Q):CallV cx n_cbs_Good [.agg #[.int .i64 j,.int .i64 k,.int .i64 e,.int .i64 l,.int .i64 d]] m Q:=
 CallV.of (fn:=Tryz.f81) (LS:=[1]) (ann:=[]) ovFr ovNi (by kernel_rfl) (by kernel_rfl) (Eq.mp (by kernel_rfl) h)
def G_cbs_ready (b c a d e:Int) (m:Mem) (Q:Value→Mem→Prop):Prop:=
 splitB (eqI a 0) (Q (.agg #[.int .i64 b,.int .i64 c,.int .i64 a,.int .i64 d,.int .i64 2]) (bump m 2)) (Q (.agg #[.int .i64 b,.int .i64 c,.int .i64 a,.int .i64 d,.int .i64 1]) (bump m 2))
theorem G_cbs_ready_ok {b c a d e:Int} {m:Mem} {Q:Value→Mem→Prop} (h:G_cbs_ready b c a d e m Q):CallV cx n_cbs_ready [.agg #[.int .i64 b,.int .i64 c,.int .i64 a,.int .i64 d,.int .i64 e]] m Q:=
 CallV.of (fn:=Tryz.f84) (LS:=[1,2]) (ann:=[]) ovFr ovNi (by kernel_rfl) (by kernel_rfl) (Eq.mp (by kernel_rfl) h)
def G_cbs_Wake (b a e c d g:Int) (m:Mem) (Q:Value→Mem→Prop):Prop:=
 joinK (fun (L:Bool) (f:Mem)=>splitB L (Q (.tuple #[.agg #[.int .i64 b,.int .i64 a,.int .i64 e,.int .i64 c,.int .i64 d],.int .i64 1]) f) (splitB (neI d 0) (Q (.tuple #[.agg #[.int .i64 b,.int .i64 a,.int .i64 e,.int .i64 c,.int .i64 d],.int .i64 5]) f) (splitB (leI c g) (CallV cx n_tick_Add [.int .i64 g,.int .i64 a] f fun K u=>∃ w z,K=(.tuple #[.int .i64 w,.bool z])∧splitB (!z) (Q (.tuple #[.agg #[.int .i64 b,.int .i64 a,.int .i64 e,.int .i64 c,.int .i64 d],.int .i64 6]) u) (CallV cx n_cbs_ready [.agg #[.int .i64 b,.int .i64 a,.int .i64 b,.int .i64 w,.int .i64 d]] u fun C R=>∃ o B p r v,C=(.agg #[.int .i64 o,.int .i64 B,.int .i64 p,.int .i64 r,.int .i64 v])∧Q (.tuple #[.agg #[.int .i64 o,.int .i64 B,.int .i64 p,.int .i64 r,.int .i64 v],.int .i64 0]) R)) (joinK (fun (N:Int) (I:Int) (G:Int) (F:Int) (S:Int) (V:Mem)=>CallV cx n_cbs_ready [.agg #[.int .i64 N,.int .i64 I,.int .i64 G,.int .i64 F,.int .i64 S]] V fun H T=>∃ l i A k t,H=(.agg #[.int .i64 l,.int .i64 i,.int .i64 A,.int .i64 k,.int .i64 t])∧Q (.tuple #[.agg #[.int .i64 l,.int .i64 i,.int .i64 A,.int .i64 k,.int .i64 t],.int .i64 0]) T) fun s=>splitB (ltI (mulI .i64 (mnI (subI .i64 c g) a) b) (mulI .i64 e a)) (CallV cx n_tick_Share [.int .i64 (mnI (subI .i64 c g) a),.int .i64 b,.int .i64 a] f fun M D=>∃ q O,M=(.tuple #[.int .i64 q,.bool O])∧s b a q c d D) (s b a e c d f))))) fun j=>CallV cx n_cbs_Good [.agg #[.int .i64 b,.int .i64 a,.int .i64 e,.int .i64 c,.int .i64 d]] (bump m 2) fun U y=>∃ n,U=(.bool n)∧splitB (!n) (j true y) (CallV cx n_tick_Good [.int .i64 g] y fun P E=>∃ x,P=(.bool x)∧j (!x) E)
theorem G_cbs_Wake_ok {b a e c d g:Int} {m:Mem} {Q:Value→Mem→Prop} (h:G_cbs_Wake b a e c d g m Q):CallV cx n_cbs_Wake [.agg #[.int .i64 b,.int .i64 a,.int .i64 e,.int .i64 c,.int .i64 d],.int .i64 g] m Q:=
 CallV.of (fn:=Tryz.f41) (LS:=[2,4]) (ann:=[none,none,some ⟨[1],[(9,.bool)],[(2,0,0),(4,1,0)],[0,1],[],2⟩,none,none,none,none,none,none,none,none,none,none,none,none,some ⟨[],[(76,.int .i64),(77,.int .i64),(78,.int .i64),(79,.int .i64),(80,.int .i64)],[(2,0,0),(4,1,0)],[1],[(0,[76,77,78,79,80])],4⟩]) ovFr ovNi (by kernel_rfl) (by kernel_rfl) (Eq.mp (by kernel_rfl) h)
def G_cbs_Use (d g a e b q:Int) (m:Mem) (Q:Value→Mem→Prop):Prop:=
 joinK (fun (t:Bool) (i:Mem)=>splitB t (Q (.tuple #[.agg #[.int .i64 d,.int .i64 g,.int .i64 a,.int .i64 e,.int .i64 b],.int .i64 1]) i) (splitB (neI b 1) (Q (.tuple #[.agg #[.int .i64 d,.int .i64 g,.int .i64 a,.int .i64 e,.int .i64 b],.int .i64 4]) i) (CallV cx n_cbs_ready [.agg #[.int .i64 d,.int .i64 g,.int .i64 (subI .i64 a q),.int .i64 e,.int .i64 b]] i fun s u=>∃ o j n l k,s=(.agg #[.int .i64 o,.int .i64 j,.int .i64 n,.int .i64 l,.int .i64 k])∧Q (.tuple #[.agg #[.int .i64 o,.int .i64 j,.int .i64 n,.int .i64 l,.int .i64 k],.int .i64 0]) u))) fun c=>CallV cx n_cbs_Good [.agg #[.int .i64 d,.int .i64 g,.int .i64 a,.int .i64 e,.int .i64 b]] (bump m 2) fun r f=>∃ p,r=(.bool p)∧splitB (!p) (c true f) (splitB (ltI q 1) (c true f) (c (ltI a q) f))
theorem G_cbs_Use_ok {d g a e b q:Int} {m:Mem} {Q:Value→Mem→Prop} (h:G_cbs_Use d g a e b q m Q):CallV cx n_cbs_Use [.agg #[.int .i64 d,.int .i64 g,.int .i64 a,.int .i64 e,.int .i64 b],.int .i64 q] m Q:=
 CallV.of (fn:=Tryz.f86) (LS:=[2,4]) (ann:=[none,none,some ⟨[1],[(6,.bool)],[(2,0,0),(4,1,0)],[0,1],[],2⟩]) ovFr ovNi (by kernel_rfl) (by kernel_rfl) (Eq.mp (by kernel_rfl) h)
def G_cbs_Idle (b c a e f:Int) (m:Mem) (Q:Value→Mem→Prop):Prop:=
 CallV cx n_cbs_Good [.agg #[.int .i64 b,.int .i64 c,.int .i64 a,.int .i64 e,.int .i64 f]] (bump m 2) fun i d=>∃ g,i=(.bool g)∧splitB (!g) (Q (.tuple #[.agg #[.int .i64 b,.int .i64 c,.int .i64 a,.int .i64 e,.int .i64 f],.int .i64 1]) d) (splitB (eqI f 0) (Q (.tuple #[.agg #[.int .i64 b,.int .i64 c,.int .i64 a,.int .i64 e,.int .i64 f],.int .i64 4]) d) (Q (.tuple #[.agg #[.int .i64 b,.int .i64 c,.int .i64 a,.int .i64 e,.int .i64 0],.int .i64 0]) d))
theorem G_cbs_Idle_ok {b c a e f:Int} {m:Mem} {Q:Value→Mem→Prop} (h:G_cbs_Idle b c a e f m Q):CallV cx n_cbs_Idle [.agg #[.int .i64 b,.int .i64 c,.int .i64 a,.int .i64 e,.int .i64 f]] m Q:=
 CallV.of (fn:=Tryz.f92) (LS:=[1,2]) (ann:=[]) ovFr ovNi (by kernel_rfl) (by kernel_rfl) (Eq.mp (by kernel_rfl) h)
def G_cbs_Wait (b c a e f:Int) (m:Mem) (Q:Value→Mem→Prop):Prop:=
 CallV cx n_cbs_Good [.agg #[.int .i64 b,.int .i64 c,.int .i64 a,.int .i64 e,.int .i64 f]] (bump m 2) fun i d=>∃ g,i=(.bool g)∧splitB (!g) (Q (.tuple #[.agg #[.int .i64 b,.int .i64 c,.int .i64 a,.int .i64 e,.int .i64 f],.int .i64 1]) d) (splitB (neI f 1) (Q (.tuple #[.agg #[.int .i64 b,.int .i64 c,.int .i64 a,.int .i64 e,.int .i64 f],.int .i64 4]) d) (Q (.tuple #[.agg #[.int .i64 b,.int .i64 c,.int .i64 a,.int .i64 e,.int .i64 2],.int .i64 0]) d))
theorem G_cbs_Wait_ok {b c a e f:Int} {m:Mem} {Q:Value→Mem→Prop} (h:G_cbs_Wait b c a e f m Q):CallV cx n_cbs_Wait [.agg #[.int .i64 b,.int .i64 c,.int .i64 a,.int .i64 e,.int .i64 f]] m Q:=
 CallV.of (fn:=Tryz.f95) (LS:=[1,2]) (ann:=[]) ovFr ovNi (by kernel_rfl) (by kernel_rfl) (Eq.mp (by kernel_rfl) h)
def G_cbs_Turn (a d g b c y:Int) (m:Mem) (Q:Value→Mem→Prop):Prop:=
 joinK (fun (t:Bool) (q:Mem)=>splitB t (Q (.tuple #[.agg #[.int .i64 a,.int .i64 d,.int .i64 g,.int .i64 b,.int .i64 c],.bool false]) q) (CallV cx n_tick_Up [.int .i64 y,.int .i64 b,.int .i64 d] q fun u l=>∃ n j,u=(.tuple #[.int .i64 n,.bool j])∧splitB (!j) (Q (.tuple #[.agg #[.int .i64 a,.int .i64 d,.int .i64 g,.int .i64 b,.int .i64 c],.bool false]) l) (CallV cx n_cbs_ready [.agg #[.int .i64 a,.int .i64 d,.int .i64 a,.int .i64 n,.int .i64 c]] l fun w x=>∃ o r s p k,w=(.agg #[.int .i64 o,.int .i64 r,.int .i64 s,.int .i64 p,.int .i64 k])∧Q (.tuple #[.agg #[.int .i64 o,.int .i64 r,.int .i64 s,.int .i64 p,.int .i64 k],.bool true]) x))) fun e=>CallV cx n_cbs_Good [.agg #[.int .i64 a,.int .i64 d,.int .i64 g,.int .i64 b,.int .i64 c]] (bump m 2) fun v f=>∃ i,v=(.bool i)∧splitB (!i) (e true f) (splitB (eqI c 0) (e true f) (e (ltI y b) f))
theorem G_cbs_Turn_ok {a d g b c y:Int} {m:Mem} {Q:Value→Mem→Prop} (h:G_cbs_Turn a d g b c y m Q):CallV cx n_cbs_Turn [.agg #[.int .i64 a,.int .i64 d,.int .i64 g,.int .i64 b,.int .i64 c],.int .i64 y] m Q:=
 CallV.of (fn:=Tryz.f45) (LS:=[2,4]) (ann:=[none,none,some ⟨[1],[(21,.bool)],[(2,0,0),(4,1,0)],[0,1],[],2⟩]) ovFr ovNi (by kernel_rfl) (by kernel_rfl) (Eq.mp (by kernel_rfl) h)
def G_gate_Worst (b c:Int) (m:Mem) (Q:Value→Mem→Prop):Prop:=
 joinK (fun (e:Bool) (d:Mem)=>splitB e (Q (.tuple #[.int .i64 0,.int .i64 0,.bool false]) d) (Q (.tuple #[.int .i64 (mulI .i64 (subI .i64 b 1) c),.int .i64 (mulI .i64 b c),.bool true]) d)) fun a=>splitB (ltI b 1) (a true m) (splitB (ltI 64 b) (a true m) (splitB (ltI c 1) (a true m) (a (ltI 1048576 c) m)))
theorem G_gate_Worst_ok {b c:Int} {m:Mem} {Q:Value→Mem→Prop} (h:G_gate_Worst b c m Q):CallV cx n_gate_Worst [.int .i64 b,.int .i64 c] m Q:=
 CallV.of (fn:=Tryz.f123) (LS:=[]) (ann:=[none,none,some ⟨[0,1],[(20,.bool)],[],[],[],0⟩]) ovFr ovNi (by kernel_rfl) (by kernel_rfl) (Eq.mp (by kernel_rfl) h)
def G_gate_Enough (g i f j:Int) (m:Mem) (Q:Value→Mem→Prop):Prop:=
 CallV cx n_gate_Worst [.int .i64 g,.int .i64 i] m fun e b=>∃ d a c,e=(.tuple #[.int .i64 d,.int .i64 a,.bool c])∧splitB c (splitB (leI a f) (Q (.bool (leI a j)) b) (Q (.bool false) b)) (Q (.bool false) b)
theorem G_gate_Enough_ok {g i f j:Int} {m:Mem} {Q:Value→Mem→Prop} (h:G_gate_Enough g i f j m Q):CallV cx n_gate_Enough [.int .i64 g,.int .i64 i,.int .i64 f,.int .i64 j] m Q:=
 CallV.of (fn:=Tryz.f94) (LS:=[]) (ann:=[]) ovFr ovNi (by kernel_rfl) (by kernel_rfl) (Eq.mp (by kernel_rfl) h)
def G_prog_Good_1 (a b:Int) (m:Mem) (Q:Value→Mem→Prop):Prop:=
 splitB (ltI a 0) (Q (.bool true) (bump m 1)) (splitB (ltI 8 a) (Q (.bool true) (bump m 1)) (splitB (ltI b 1) (Q (.bool true) (bump m 1)) (Q (.bool (ltI 2147483648 b)) (bump m 1))))
theorem G_prog_Good_1_ok {a b:Int} {m:Mem} {Q:Value→Mem→Prop} (h:G_prog_Good_1 a b m Q):CallV cx n_prog_Good_1 [.agg #[.int .i64 a,.int .i64 b]] m Q:=
 CallV.of (fn:=Tryz.f118) (LS:=[1]) (ann:=[]) ovFr ovNi (by kernel_rfl) (by kernel_rfl) (Eq.mp (by kernel_rfl) h)
def G_slices_IndexFunc_prog_Prog (r:Option Addr) (n s:Nat) (q:Value) (m:Mem) (Q:Value→Mem→Prop):Prop:=
 ∃ c:Int→Mem→Nat→Prop,(∃ o:Nat,c 0 m o)∧∀ a b l,c a b l→splitB (ltI a (lenI n)) ((0≤a∧a < ((n:Nat):Int))∧(vPtr r fun j k=>∃ d,rd b j (k+Int.toNat a*2)=some (.int .i64 d)∧∃ e,rd b j (k+Int.toNat a*2+1)=some (.int .i64 e)∧(vCallFV cx b q [.agg #[.int .i64 d,.int .i64 e]] fun p i=>∃ g,p=(.bool g)∧splitB g (Q (.int .i64 a) i) (∃ f:Nat,f < l∧c (addI .i64 a 1) i f)))) (Q (.int .i64 (-1:Int)) b)
theorem G_slices_IndexFunc_prog_Prog_ok {r:Option Addr} {n s:Nat} {q:Value} {m:Mem} {Q:Value→Mem→Prop} (h:G_slices_IndexFunc_prog_Prog r n s q m Q):CallV cx n_slices_IndexFunc_prog_Prog [.slice r n s,q] m Q:=
 CallV.of (fn:=Tryz.f119) (LS:=[]) (ann:=[none,none,none,some ⟨[0,1,7],[(8,.int .i64)],[],[],[],0⟩]) ovFr ovNi (by kernel_rfl) (by kernel_rfl) (Eq.mp (by kernel_rfl) h)
def G_slices_ContainsFunc_prog_Prog (f:Option Addr) (e g:Nat) (d:Value) (m:Mem) (Q:Value→Mem→Prop):Prop:=
 CallV cx n_slices_IndexFunc_prog_Prog [.slice f e g,d] m fun b c=>∃ a,b=(.int .i64 a)∧Q (.bool (leI 0 a)) c
theorem G_slices_ContainsFunc_prog_Prog_ok {f:Option Addr} {e g:Nat} {d:Value} {m:Mem} {Q:Value→Mem→Prop} (h:G_slices_ContainsFunc_prog_Prog f e g d m Q):CallV cx n_slices_ContainsFunc_prog_Prog [.slice f e g,d] m Q:=
 CallV.of (fn:=Tryz.f80) (LS:=[]) (ann:=[]) ovFr ovNi (by kernel_rfl) (by kernel_rfl) (Eq.mp (by kernel_rfl) h)
def G_prog_Good (e:Option Addr) (a f:Nat) (m:Mem) (Q:Value→Mem→Prop):Prop:=
 splitB (leI 1 (lenI a)) (splitB (leI (lenI a) 8) (CallV cx n_slices_ContainsFunc_prog_Prog [.slice e a f,.func (.func n_prog_Good_1) #[] #[]] m fun d c=>∃ b,d=(.bool b)∧Q (.bool (!b)) c) (Q (.bool false) m)) (Q (.bool false) m)
theorem G_prog_Good_ok {e:Option Addr} {a f:Nat} {m:Mem} {Q:Value→Mem→Prop} (h:G_prog_Good e a f m Q):CallV cx n_prog_Good [.slice e a f] m Q:=
 CallV.of (fn:=Tryz.f79) (LS:=[]) (ann:=[]) ovFr ovNi (by kernel_rfl) (by kernel_rfl) (Eq.mp (by kernel_rfl) h)
def G_prog_Fits_1 (g i:Int) (f:Option Addr) (m:Mem) (Q:Value→Mem→Prop):Prop:=
 vPtr f fun e b=>∃ c a d,rd (bump m 1) e b=some (.slice c a d)∧Q (.bool (ltI (lenI a) g)) (bump m 1)
theorem G_prog_Fits_1_ok {g i:Int} {f:Option Addr} {m:Mem} {Q:Value→Mem→Prop} (h:G_prog_Fits_1 g i f m Q):CallV cx n_prog_Fits_1 [.agg #[.int .i64 g,.int .i64 i],.pointer f] m Q:=
 CallV.of (fn:=Tryz.f78) (LS:=[2]) (ann:=[]) ovFr ovNi (by kernel_rfl) (by kernel_rfl) (Eq.mp (by kernel_rfl) h)
def G_prog_Fits (g l:Option Addr) (f j n o:Nat) (m:Mem) (Q:Value→Mem→Prop):Prop:=
 mBind (newO m (row [.slice l n o] t_sl_int64 false)) fun i=>CallV cx n_prog_Good [.slice g f j] i fun e a=>∃ b,e=(.bool b)∧splitB b (CallV cx n_slices_ContainsFunc_prog_Prog [.slice g f j,.func (.func n_prog_Fits_1) #[] #[.pointer (some ⟨m.nx,0,none⟩)]] a fun k d=>∃ c,k=(.bool c)∧Q (.bool (!c)) d) (Q (.bool false) a)
theorem G_prog_Fits_ok {g l:Option Addr} {f j n o:Nat} {m:Mem} {Q:Value→Mem→Prop} (h:G_prog_Fits g l f j n o m Q):CallV cx n_prog_Fits [.slice g f j,.slice l n o] m Q:=
 CallV.of (fn:=Tryz.f36) (LS:=[]) (ann:=[]) ovFr ovNi (by kernel_rfl) (by kernel_rfl) (Eq.mp (by kernel_rfl) h)
def G_job_Good (o b e:Int) (n:Option Addr) (c p:Nat) (m:Mem) (Q:Value→Mem→Prop):Prop:=
 joinK (fun (d:Mem)=>splitB (eqI b (lenI c)) (Q (.bool (eqI e 0)) d) ((0≤b∧b < ((c:Nat):Int))∧(vPtr n fun k l=>∃ g,rd (bump d 11) k (l+Int.toNat b*2+1)=some (.int .i64 g)∧Q (.bool (leI e g)) (bump d 11)))) fun j=>splitB (ltI o 1) (Q (.bool false) (bump m 1)) (CallV cx n_prog_Good [.slice n c p] (bump m 1) fun i a=>∃ f,i=(.bool f)∧splitB (!f) (Q (.bool false) a) (splitB (ltI b 0) (Q (.bool false) a) (splitB (ltI (lenI c) b) (Q (.bool false) a) (splitB (ltI e 0) (Q (.bool false) a) (j a)))))
theorem G_job_Good_ok {o b e:Int} {n:Option Addr} {c p:Nat} {m:Mem} {Q:Value→Mem→Prop} (h:G_job_Good o b e n c p m Q):CallV cx n_job_Good [.agg #[.int .i64 o,.slice n c p,.int .i64 b,.int .i64 e]] m Q:=
 CallV.of (fn:=Tryz.f122) (LS:=[1]) (ann:=[none,some ⟨[],[],[(1,0,0)],[0],[],1⟩]) ovFr ovNi (by kernel_rfl) (by kernel_rfl) (Eq.mp (by kernel_rfl) h)
def G_job_New (n:Int) (p:Option Addr) (k l:Nat) (m:Mem) (Q:Value→Mem→Prop):Prop:=
 joinK (fun (q:Bool) (a:Mem)=>splitB q (Q (.tuple #[.agg #[.int .i64 0,.slice none 0 0,.int .i64 0,.int .i64 0],.bool false]) a) (mBind (newO a (row [] t_prog_Step false)) fun o=>∃ c e g d,appendA cx o [t_prog_Prog,t_prog_Prog] [.slice (some ⟨a.nx,0,none⟩) 0 0,.slice p k l]=some (.slice c e g,d)∧Q (.tuple #[.agg #[.int .i64 n,.slice c e g,.int .i64 0,.int .i64 0],.bool true]) d)) fun b=>CallV cx n_prog_Good [.slice p k l] (bump m 1) fun j f=>∃ i,j=(.bool i)∧splitB (!i) (b true f) (b (ltI n 1) f)
theorem G_job_New_ok {n:Int} {p:Option Addr} {k l:Nat} {m:Mem} {Q:Value→Mem→Prop} (h:G_job_New n p k l m Q):CallV cx n_job_New [.int .i64 n,.slice p k l] m Q:=
 CallV.of (fn:=Tryz.f38) (LS:=[4]) (ann:=[none,none,some ⟨[0,1],[(12,.bool)],[(4,0,0)],[0],[],1⟩]) ovFr ovNi (by kernel_rfl) (by kernel_rfl) (Eq.mp (by kernel_rfl) h)
def G_job_Step (q a p:Int) (o:Option Addr) (c r:Nat) (m:Mem) (Q:Value→Mem→Prop):Prop:=
 joinK (fun (l:Bool) (b:Mem)=>splitB l (Q (.tuple #[.agg #[.int .i64 0,.int .i64 0],.bool false]) b) ((0≤a∧a < ((c:Nat):Int))∧(vPtr o fun i j=>∃ f,rd b i (j+Int.toNat a*2)=some (.int .i64 f)∧∃ k,rd b i (j+Int.toNat a*2+1)=some (.int .i64 k)∧Q (.tuple #[.agg #[.int .i64 f,.int .i64 k],.bool true]) b))) fun d=>CallV cx n_job_Good [.agg #[.int .i64 q,.slice o c r,.int .i64 a,.int .i64 p]] (bump m 2) fun n g=>∃ e,n=(.bool e)∧splitB (!e) (d true g) (d (eqI a (lenI c)) g)
theorem G_job_Step_ok {q a p:Int} {o:Option Addr} {c r:Nat} {m:Mem} {Q:Value→Mem→Prop} (h:G_job_Step q a p o c r m Q):CallV cx n_job_Step [.agg #[.int .i64 q,.slice o c r,.int .i64 a,.int .i64 p]] m Q:=
 CallV.of (fn:=Tryz.f89) (LS:=[1,2]) (ann:=[none,none,some ⟨[],[(14,.bool)],[(1,0,0),(2,1,0)],[0,1],[],2⟩]) ovFr ovNi (by kernel_rfl) (by kernel_rfl) (Eq.mp (by kernel_rfl) h)
def G_job_Run (d f a l:Int) (e:Option Addr) (c i:Nat) (m:Mem) (Q:Value→Mem→Prop):Prop:=
 CallV cx n_job_Step [.agg #[.int .i64 d,.slice e c i,.int .i64 f,.int .i64 a]] (bump m 2) fun k g=>∃ n b j,k=(.tuple #[.agg #[.int .i64 n,.int .i64 b],.bool j])∧splitB (!j) (Q (.tuple #[.agg #[.int .i64 d,.slice e c i,.int .i64 f,.int .i64 a],.int .i64 0]) (bump g 1)) (Q (.tuple #[.agg #[.int .i64 d,.slice e c i,.int .i64 f,.int .i64 (addI .i64 a (mnI (mxI l 0) (subI .i64 b a)))],.int .i64 (mnI (mxI l 0) (subI .i64 b a))]) (bump g 1))
theorem G_job_Run_ok {d f a l:Int} {e:Option Addr} {c i:Nat} {m:Mem} {Q:Value→Mem→Prop} (h:G_job_Run d f a l e c i m Q):CallV cx n_job_Run [.agg #[.int .i64 d,.slice e c i,.int .i64 f,.int .i64 a],.int .i64 l] m Q:=
 CallV.of (fn:=Tryz.f87) (LS:=[2,4,6]) (ann:=[]) ovFr ovNi (by kernel_rfl) (by kernel_rfl) (Eq.mp (by kernel_rfl) h)
def G_job_Next (d i c:Int) (j:Option Addr) (a e:Nat) (m:Mem) (Q:Value→Mem→Prop):Prop:=
 CallV cx n_job_Step [.agg #[.int .i64 d,.slice j a e,.int .i64 i,.int .i64 c]] (bump m 2) fun n l=>∃ o g k,n=(.tuple #[.agg #[.int .i64 o,.int .i64 g],.bool k])∧(joinK (fun (p:Bool) (f:Mem)=>splitB p (Q (.tuple #[.agg #[.int .i64 d,.slice j a e,.int .i64 i,.int .i64 c],.bool false]) f) (Q (.tuple #[.agg #[.int .i64 d,.slice j a e,.int .i64 (addI .i64 i 1),.int .i64 0],.bool true]) f)) fun b=>splitB (!k) (b true (bump l 1)) (b (neI c g) (bump l 1)))
theorem G_job_Next_ok {d i c:Int} {j:Option Addr} {a e:Nat} {m:Mem} {Q:Value→Mem→Prop} (h:G_job_Next d i c j a e m Q):CallV cx n_job_Next [.agg #[.int .i64 d,.slice j a e,.int .i64 i,.int .i64 c]] m Q:=
 CallV.of (fn:=Tryz.f91) (LS:=[1,2,4]) (ann:=[none,none,none,some ⟨[],[(19,.bool)],[(1,0,0),(2,1,0)],[0,1],[],4⟩]) ovFr ovNi (by kernel_rfl) (by kernel_rfl) (Eq.mp (by kernel_rfl) h)
def G_cmp_isNaN_int (a:Int) (m:Mem) (Q:Value→Mem→Prop):Prop:=
 Q (.bool (neI a a)) m
theorem G_cmp_isNaN_int_ok {a:Int} {m:Mem} {Q:Value→Mem→Prop} (h:G_cmp_isNaN_int a m Q):CallV cx n_cmp_isNaN_int [.int .i64 a] m Q:=
 CallV.of (fn:=Tryz.f116) (LS:=[]) (ann:=[]) ovFr ovNi (by kernel_rfl) (by kernel_rfl) (Eq.mp (by kernel_rfl) h)
def G_cmp_Compare_int (c e:Int) (m:Mem) (Q:Value→Mem→Prop):Prop:=
 CallV cx n_cmp_isNaN_int [.int .i64 c] m fun g i=>∃ d,g=(.bool d)∧(CallV cx n_cmp_isNaN_int [.int .i64 e] i fun f a=>∃ b,f=(.bool b)∧splitB d (splitB b (Q (.int .i64 0) a) (Q (.int .i64 (-1:Int)) a)) (splitB b (Q (.int .i64 1) a) (splitB (ltI c e) (Q (.int .i64 (-1:Int)) a) (splitB (ltI e c) (Q (.int .i64 1) a) (Q (.int .i64 0) a)))))
theorem G_cmp_Compare_int_ok {c e:Int} {m:Mem} {Q:Value→Mem→Prop} (h:G_cmp_Compare_int c e m Q):CallV cx n_cmp_Compare_int [.int .i64 c,.int .i64 e] m Q:=
 CallV.of (fn:=Tryz.f69) (LS:=[]) (ann:=[]) ovFr ovNi (by kernel_rfl) (by kernel_rfl) (Eq.mp (by kernel_rfl) h)
end
end Go.Proofs.YtiehbnmpaeedpaaGreat.vc
namespace Go.Proofs.YtiehbnmpaeedpaaGreat.vc
open Go Go.AX
@[reducible] def srvV (s:pm.Srv):Value:=.agg #[.int .i64 s.q,.int .i64 s.p,.int .i64 s.bud,.int .i64 s.due,.int .i64 s.mode]
section
variable {m:Mem} {Q:Value→Mem→Prop}
theorem leaf {r r':Value} {m m':Mem} (h:∀ m',Keep m m'→Q r m') (k:Keep m m') (e:r=r'):Q r' m':=e ▸ h m' k
theorem tGood_ok {x:Int} (hw:Wf m) (h:∀ m',Keep m m'→Q (.bool (pm.tGood x)) m'):CallV cx n_tick_Good [.int .i64 x] m Q:=by
 apply G_tick_Good_ok; unfold G_tick_Good
 refine split_b (fun h1=>?_) (fun h1=>?_)
 ·exact leaf h (Keep.refl hw) (by simp [pm.tGood,h1])
 ·exact leaf h (Keep.refl hw) (by simp [pm.tGood,h1])
theorem tgood_ok {x:Int} (hw:Wf m) (h:∀ m',Keep m m'→Q (.tuple #[.int .i64 (pm.tgood x).1,.bool (pm.tgood x).2]) m'):CallV cx n_tick_good [.int .i64 x] m Q:=by
 apply G_tick_good_ok; unfold G_tick_good
 refine tGood_ok hw fun m1 k1=>⟨_,rfl,?_⟩
 refine split_nb (fun h1=>?_) (fun h1=>?_)
 ·exact leaf h k1 (by simp [pm.tgood,h1])
 ·exact leaf h k1 (by simp [pm.tgood,h1])
theorem tIn_ok {x a b:Int} (hw:Wf m) (h:∀ m',Keep m m'→Q (.bool (pm.tIn x a b)) m'):CallV cx n_tick_in [.int .i64 x,.int .i64 a,.int .i64 b] m Q:=by
 apply G_tick_in_ok; unfold G_tick_in
 refine split_b (fun h1=>?_) (fun h1=>?_)
 ·exact leaf h (Keep.refl hw) (by simp [pm.tIn,h1])
 ·exact leaf h (Keep.refl hw) (by simp [pm.tIn,h1])
theorem tAdd_ok {a b:Int} (hw:Wf m) (h:∀ m',Keep m m'→Q (.tuple #[.int .i64 (pm.tAdd a b).1,.bool (pm.tAdd a b).2]) m'):CallV cx n_tick_Add [.int .i64 a,.int .i64 b] m Q:=by
 apply G_tick_Add_ok; unfold G_tick_Add joinK; dsimp only
 refine tGood_ok hw fun m1 k1=>⟨_,rfl,?_⟩
 refine split_nb (fun h1=>?_) (fun h1=>?_)
 ·exact leaf h k1 (by simp [pm.tAdd,h1])
 refine tGood_ok k1.wf fun m2 k2=>⟨_,rfl,?_⟩
 refine split_nb (fun h2=>?_) (fun h2=>?_)
 ·exact leaf h (k1.trans k2) (by simp [pm.tAdd,h1,h2])
 refine tgood_ok k2.wf fun m3 k3=>⟨_,_,rfl,?_⟩
 exact leaf h ((k1.trans k2).trans k3) (by simp [pm.tAdd,h1,h2])
theorem tIn_pos {x b:Int} (h:pm.tIn x 1 b=true):x≠0:=by
 unfold pm.tIn at h
 simp only [Bool.and_eq_true,leI_true] at h
 omega
theorem tShare_ok {a b c:Int} (hw:Wf m) (h:∀ m',Keep m m'→Q (.tuple #[.int .i64 (pm.tShare a b c).1,.bool (pm.tShare a b c).2]) m'):CallV cx n_tick_Share [.int .i64 a,.int .i64 b,.int .i64 c] m Q:=by
 apply G_tick_Share_ok; unfold G_tick_Share joinK; dsimp only
 refine tIn_ok hw fun m1 k1=>⟨_,rfl,?_⟩
 refine split_nb (fun h1=>?_) (fun h1=>?_)
 ·exact leaf h k1 (by simp [pm.tShare,h1])
 refine tIn_ok k1.wf fun m2 k2=>⟨_,rfl,?_⟩
 refine split_nb (fun h2=>?_) (fun h2=>?_)
 ·exact leaf h (k1.trans k2) (by simp [pm.tShare,h1,h2])
 refine tIn_ok k2.wf fun m3 k3=>⟨_,rfl,?_⟩
 refine split_nb (fun h3=>?_) (fun h3=>?_)
 ·exact leaf h ((k1.trans k2).trans k3) (by simp [pm.tShare,h1,h2,h3])
 ·exact ⟨tIn_pos h2,leaf h ((k1.trans k2).trans k3) (by simp [pm.tShare,h1,h2,h3])⟩
theorem tUp_ok {a b c:Int} (hw:Wf m) (h:∀ m',Keep m m'→Q (.tuple #[.int .i64 (pm.tUp a b c).1,.bool (pm.tUp a b c).2]) m'):CallV cx n_tick_Up [.int .i64 a,.int .i64 b,.int .i64 c] m Q:=by
 apply G_tick_Up_ok; unfold G_tick_Up joinK; dsimp only
 refine tGood_ok hw fun m1 k1=>⟨_,rfl,?_⟩
 refine split_nb (fun h1=>?_) (fun h1=>?_)
 ·exact leaf h k1 (by simp [pm.tUp,h1])
 refine tGood_ok k1.wf fun m2 k2=>⟨_,rfl,?_⟩
 refine split_nb (fun h2=>?_) (fun h2=>?_)
 ·exact leaf h (k1.trans k2) (by simp [pm.tUp,h1,h2])
 refine tIn_ok k2.wf fun m3 k3=>⟨_,rfl,?_⟩
 have k:=(k1.trans k2).trans k3
 refine split_nb (fun h3=>?_) (fun h3=>?_)
 ·exact leaf h k (by simp [pm.tUp,h1,h2,h3])
 refine split_b (fun h4=>?_) (fun h4=>?_)
 ·exact leaf h k (by simp [pm.tUp,h1,h2,h3,h4])
 refine ⟨tIn_pos h3,tgood_ok k3.wf fun m4 k4=>⟨_,_,rfl,?_⟩⟩
 exact leaf h (k.trans k4) (by simp [pm.tUp,h1,h2,h3,h4])
theorem pair_ok {q p:Int} (hw:Wf m) (h:∀ m',Keep m m'→Q (.bool (pm.pair q p)) m'):CallV cx n_cbs_pair [.int .i64 q,.int .i64 p] m Q:=by
 apply G_cbs_pair_ok; unfold G_cbs_pair
 refine split_b (fun h1=>split_b (fun h2=>split_b (fun h3=>?_) (fun h3=>?_)) (fun h2=>?_)) (fun h1=>?_)
 ·exact leaf h (Keep.refl hw) (by simp [pm.pair,h1,h2,h3])
 ·exact leaf h (Keep.refl hw) (by simp [pm.pair,h1,h2,h3])
 ·exact leaf h (Keep.refl hw) (by simp [pm.pair,h1,h2])
 ·exact leaf h (Keep.refl hw) (by simp [pm.pair,h1])
theorem cNew_ok {q p:Int} (hw:Wf m) (h:∀ m',Keep m m'→Q (.tuple #[srvV (pm.cNew q p).1,.int .i64 (pm.cNew q p).2]) m'):CallV cx n_cbs_New [.int .i64 q,.int .i64 p] m Q:=by
 apply G_cbs_New_ok; unfold G_cbs_New
 refine pair_ok hw.bump fun m1 k1=>⟨_,rfl,?_⟩
 have k:=(Keep.refl hw).bump.trans k1
 refine split_nb (fun h1=>?_) (fun h1=>?_)
 ·exact leaf h k (by simp [pm.cNew,h1])
 ·exact leaf h k (by simp [pm.cNew,h1])
theorem cGood_ok {q p b d mo:Int} (hw:Wf m) (h:∀ m',Keep m m'→Q (.bool (pm.cGood ⟨q,p,b,d,mo⟩)) m'):CallV cx n_cbs_Good [.agg #[.int .i64 q,.int .i64 p,.int .i64 b,.int .i64 d,.int .i64 mo]] m Q:=by
 apply G_cbs_Good_ok; unfold G_cbs_Good
 refine pair_ok hw.bump fun m1 k1=>⟨_,rfl,?_⟩
 have k:=(Keep.refl hw).bump.trans k1
 refine split_b (fun h1=>split_b (fun h2=>split_b (fun h3=>?_) (fun h3=>?_)) (fun h2=>?_)) (fun h1=>?_)
 ·refine tGood_ok k1.wf fun m2 k2=>⟨_,rfl,?_⟩
  have k:=k.trans k2
  refine split_b (fun h4=>split_b (fun h5=>split_b (fun h6=>split_b (fun h7=>?_) (fun h7=>?_)) (fun h6=>?_)) (fun h5=>?_)) (fun h4=>?_)
  ·exact leaf h k (by simp [pm.cGood,h1,h2,h3,h4,h5,h6,h7])
  ·exact leaf h k (by simp [pm.cGood,h1,h2,h3,h4,h5,h6,h7])
  ·exact leaf h k (by simp [pm.cGood,h1,h2,h3,h4,h5,h6])
  ·exact leaf h k (by simp [pm.cGood,h1,h2,h3,h4,h5])
  ·exact leaf h k (by simp [pm.cGood,h1,h2,h3,h4])
 ·exact leaf h k (by simp [pm.cGood,h1,h2,h3])
 ·exact leaf h k (by simp [pm.cGood,h1,h2])
 ·exact leaf h k (by simp [pm.cGood,h1])
theorem cReady_ok {q p b d mo:Int} (hw:Wf m) (h:∀ m',Keep m m'→Q (srvV (pm.cReady ⟨q,p,b,d,mo⟩)) m'):CallV cx n_cbs_ready [.agg #[.int .i64 q,.int .i64 p,.int .i64 b,.int .i64 d,.int .i64 mo]] m Q:=by
 apply G_cbs_ready_ok; unfold G_cbs_ready
 refine split_b (fun h1=>?_) (fun h1=>?_)
 ·exact leaf h (Keep.refl hw).bump (by simp [pm.cReady,h1])
 ·exact leaf h (Keep.refl hw).bump (by simp [pm.cReady,h1])
theorem cUse_ok {q p b d mo x:Int} (hw:Wf m) (h:∀ m',Keep m m'→Q (.tuple #[srvV (pm.cUse ⟨q,p,b,d,mo⟩ x).1,.int .i64 (pm.cUse ⟨q,p,b,d,mo⟩ x).2]) m'):CallV cx n_cbs_Use [.agg #[.int .i64 q,.int .i64 p,.int .i64 b,.int .i64 d,.int .i64 mo],.int .i64 x] m Q:=by
 apply G_cbs_Use_ok; unfold G_cbs_Use joinK; dsimp only
 refine cGood_ok hw.bump fun m1 k1=>⟨_,rfl,?_⟩
 have k:=(Keep.refl hw).bump.trans k1
 refine split_nb (fun h1=>?_) (fun h1=>?_)
 ·rw [splitB_true]; exact leaf h k (by simp [pm.cUse,h1])
 refine split_b (fun h2=>?_) (fun h2=>?_)
 ·rw [splitB_true]; exact leaf h k (by simp [pm.cUse,h1,h2])
 refine split_b (fun h3=>?_) (fun h3=>?_)
 ·exact leaf h k (by simp [pm.cUse,h1,h2,h3])
 ·refine split_ne (fun h4=>?_) (fun h4=>?_)
  ·have h4:=neI_true.2 h4
   exact leaf h k (by simp [pm.cUse,h1,h2,h3,h4])
  ·have h4:=neI_false.2 h4
   refine cReady_ok k1.wf fun m2 k2=>⟨_,_,_,_,_,rfl,?_⟩
   exact leaf h (k.trans k2) (by simp [pm.cUse,h1,h2,h3,h4])
theorem cIdle_ok {q p b d mo:Int} (hw:Wf m) (h:∀ m',Keep m m'→Q (.tuple #[srvV (pm.cIdle ⟨q,p,b,d,mo⟩).1,.int .i64 (pm.cIdle ⟨q,p,b,d,mo⟩).2]) m'):CallV cx n_cbs_Idle [.agg #[.int .i64 q,.int .i64 p,.int .i64 b,.int .i64 d,.int .i64 mo]] m Q:=by
 apply G_cbs_Idle_ok; unfold G_cbs_Idle
 refine cGood_ok hw.bump fun m1 k1=>⟨_,rfl,?_⟩
 have k:=(Keep.refl hw).bump.trans k1
 refine split_nb (fun h1=>?_) (fun h1=>split_b (fun h2=>?_) (fun h2=>?_))
 ·exact leaf h k (by simp [pm.cIdle,h1])
 ·exact leaf h k (by simp [pm.cIdle,h1,h2])
 ·exact leaf h k (by simp [pm.cIdle,h1,h2])
theorem cWait_ok {q p b d mo:Int} (hw:Wf m) (h:∀ m',Keep m m'→Q (.tuple #[srvV (pm.cWait ⟨q,p,b,d,mo⟩).1,.int .i64 (pm.cWait ⟨q,p,b,d,mo⟩).2]) m'):CallV cx n_cbs_Wait [.agg #[.int .i64 q,.int .i64 p,.int .i64 b,.int .i64 d,.int .i64 mo]] m Q:=by
 apply G_cbs_Wait_ok; unfold G_cbs_Wait
 refine cGood_ok hw.bump fun m1 k1=>⟨_,rfl,?_⟩
 have k:=(Keep.refl hw).bump.trans k1
 refine split_nb (fun h1=>?_) (fun h1=>split_b (fun h2=>?_) (fun h2=>?_))
 ·exact leaf h k (by simp [pm.cWait,h1])
 ·exact leaf h k (by simp [pm.cWait,h1,h2])
 ·exact leaf h k (by simp [pm.cWait,h1,h2])
theorem cTurn_ok {q p b d mo x:Int} (hw:Wf m) (h:∀ m',Keep m m'→Q (.tuple #[srvV (pm.cTurn ⟨q,p,b,d,mo⟩ x).1,.bool (pm.cTurn ⟨q,p,b,d,mo⟩ x).2]) m'):CallV cx n_cbs_Turn [.agg #[.int .i64 q,.int .i64 p,.int .i64 b,.int .i64 d,.int .i64 mo],.int .i64 x] m Q:=by
 apply G_cbs_Turn_ok; unfold G_cbs_Turn joinK; dsimp only
 refine cGood_ok hw.bump fun m1 k1=>⟨_,rfl,?_⟩
 have k:=(Keep.refl hw).bump.trans k1
 refine split_nb (fun h1=>?_) (fun h1=>?_)
 ·rw [splitB_true]; exact leaf h k (by simp [pm.cTurn,h1])
 refine split_b (fun h2=>?_) (fun h2=>?_)
 ·rw [splitB_true]; exact leaf h k (by simp [pm.cTurn,h1,h2])
 refine split_b (fun h3=>?_) (fun h3=>?_)
 ·exact leaf h k (by simp [pm.cTurn,h1,h2,h3])
 refine tUp_ok k1.wf fun m2 k2=>⟨_,_,rfl,?_⟩
 have k:=k.trans k2
 refine split_nb (fun h4=>?_) (fun h4=>?_)
 ·exact leaf h k (by simp [pm.cTurn,h1,h2,h3,h4])
 refine cReady_ok k2.wf fun m3 k3=>⟨_,_,_,_,_,rfl,?_⟩
 exact leaf h (k.trans k3) (by simp [pm.cTurn,h1,h2,h3,h4])
theorem cWake_ok {q p b d mo x:Int} (hw:Wf m) (h:∀ m',Keep m m'→Q (.tuple #[srvV (pm.cWake ⟨q,p,b,d,mo⟩ x).1,.int .i64 (pm.cWake ⟨q,p,b,d,mo⟩ x).2]) m'):CallV cx n_cbs_Wake [.agg #[.int .i64 q,.int .i64 p,.int .i64 b,.int .i64 d,.int .i64 mo],.int .i64 x] m Q:=by
 apply G_cbs_Wake_ok; unfold G_cbs_Wake joinK; dsimp only
 refine cGood_ok hw.bump fun m1 k1=>⟨_,rfl,?_⟩
 have k:=(Keep.refl hw).bump.trans k1
 refine split_nb (fun h1=>?_) (fun h1=>?_)
 ·rw [splitB_true]; exact leaf h k (by simp [pm.cWake,h1])
 refine tGood_ok k1.wf fun m2 k2=>⟨_,rfl,?_⟩
 have k:=k.trans k2
 refine split_nb (fun h2=>?_) (fun h2=>?_)
 ·exact leaf h k (by simp [pm.cWake,h1,h2])
 refine split_b (fun h3=>?_) (fun h3=>?_)
 ·exact leaf h k (by simp [pm.cWake,h1,h2,h3])
 refine split_b (fun h4=>?_) (fun h4=>?_)
 ·refine tAdd_ok k2.wf fun m3 k3=>⟨_,_,rfl,?_⟩
  have k:=k.trans k3
  refine split_nb (fun h5=>?_) (fun h5=>?_)
  ·exact leaf h k (by simp [pm.cWake,h1,h2,h3,h4,h5])
  refine cReady_ok k3.wf fun m4 k4=>⟨_,_,_,_,_,rfl,?_⟩
  exact leaf h (k.trans k4) (by simp [pm.cWake,h1,h2,h3,h4,h5])
 ·refine split_b (fun h5=>?_) (fun h5=>?_)
  ·refine tShare_ok k2.wf fun m3 k3=>⟨_,_,rfl,?_⟩
   have k:=k.trans k3
   refine cReady_ok k3.wf fun m4 k4=>⟨_,_,_,_,_,rfl,?_⟩
   exact leaf h (k.trans k4) (by simp [pm.cWake,h1,h2,h3,h4,h5])
  ·refine cReady_ok k2.wf fun m4 k4=>⟨_,_,_,_,_,rfl,?_⟩
   exact leaf h (k.trans k4) (by simp [pm.cWake,h1,h2,h3,h4,h5])
theorem gWorst_ok {a b:Int} (hw:Wf m) (h:∀ m',Keep m m'→Q (.tuple #[.int .i64 (pm.gWorst a b).1,.int .i64 (pm.gWorst a b).2.1,.bool (pm.gWorst a b).2.2]) m'):CallV cx n_gate_Worst [.int .i64 a,.int .i64 b] m Q:=by
 apply G_gate_Worst_ok; unfold G_gate_Worst joinK; dsimp only
 have k:=Keep.refl hw
 refine split_b (fun h1=>?_) (fun h1=>split_b (fun h2=>?_) (fun h2=>split_b (fun h3=>?_) (fun h3=>split_b (fun h4=>?_) (fun h4=>?_))))
 ·rw [splitB_true]; exact leaf h k (by simp [pm.gWorst,h1])
 ·rw [splitB_true]; exact leaf h k (by simp [pm.gWorst,h1,h2])
 ·rw [splitB_true]; exact leaf h k (by simp [pm.gWorst,h1,h2,h3])
 ·exact leaf h k (by simp [pm.gWorst,h1,h2,h3,h4])
 ·exact leaf h k (by simp [pm.gWorst,h1,h2,h3,h4])
theorem gEnough_ok {a b c d:Int} (hw:Wf m) (h:∀ m',Keep m m'→Q (.bool (pm.gEnough a b c d)) m'):CallV cx n_gate_Enough [.int .i64 a,.int .i64 b,.int .i64 c,.int .i64 d] m Q:=by
 apply G_gate_Enough_ok; unfold G_gate_Enough
 refine gWorst_ok hw fun m1 k1=>⟨_,_,_,rfl,?_⟩
 refine split_b (fun h1=>split_b (fun h2=>?_) (fun h2=>?_)) (fun h1=>?_)
 ·exact leaf h k1 (by simp [pm.gEnough,h1,h2])
 ·exact leaf h k1 (by simp [pm.gEnough,h1,h2])
 ·exact leaf h k1 (by simp [pm.gEnough,h1])
theorem isNaN_int {x:Int} (h:Q (.bool false) m):CallV cx n_cmp_isNaN_int [.int .i64 x] m Q:=by
 apply G_cmp_isNaN_int_ok; unfold G_cmp_isNaN_int; rw [neI_self]; exact h
theorem compare_int {x y:Int} (h:Q (.int .i64 (pl.c2 x y)) m):CallV cx n_cmp_Compare_int [.int .i64 x,.int .i64 y] m Q:=by
 apply G_cmp_Compare_int_ok; unfold G_cmp_Compare_int
 refine isNaN_int ⟨_,rfl,isNaN_int ⟨_,rfl,?_⟩⟩
 unfold pl.c2 at h
 rw [splitB_false,splitB_false]
 simp only [splitB_iff,ltI_true,ltI_false]
 exact ⟨fun e=>by rw [if_pos e] at h; exact h,fun e=>⟨fun e2=>by rw [if_neg (by omega),if_pos e2] at h; exact h,fun e2=>by rw [if_neg (by omega),if_neg (by omega)] at h; exact h⟩⟩
end
end Go.Proofs.YtiehbnmpaeedpaaGreat.vc
namespace Go.Proofs.YtiehbnmpaeedpaaGreat.vc
open Go Go.AX
@[reducible] def jobV (j:pm.Job) (a:Option Addr) (n c:Nat):Value:=.agg #[.int .i64 j.num,.slice a n c,.int .i64 j.at_,.int .i64 j.done]
theorem leI_idx {α : Type} {f:α→Bool} {l:List α}:leI 0 (match l.findIdx? f with | some i=>(i:Int) | none=>-1)=l.any f:=by
 cases h:l.findIdx? f with
 | none=>
  rw [List.findIdx?_eq_none_iff] at h
  have:l.any f=false:=List.any_eq_false.2 fun x hx=>by rw [h x hx]; simp
  rw [this]; simp [leI]
 | some i=>
  obtain ⟨hi,h1,_⟩:=List.findIdx?_eq_some_iff_getElem.1 h
  have:l.any f=true:=List.any_eq_true.2 ⟨_,List.getElem_mem hi,h1⟩
  rw [this]; simp [leI]
section
variable {m:Mem} {Q:Value→Mem→Prop}
theorem idxP_ok {v:Value} {f:pm.Step→Bool} {a:Option Addr} {n c:Nat} {l:List pm.Step} (hw:Wf m) (ha:Arr encP 2 m a n l) (hn:n≤4611686018427387904)
  (hf:∀ x m1 (R:Value→Mem→Prop),Keep m m1→(∀ m2,Keep m1 m2→R (.bool (f x)) m2)→vCallFV cx m1 v [.agg #[.int .i64 x.1,.int .i64 x.2]] R)
  (h:∀ m',Keep m m'→Q (.int .i64 (match l.findIdx? f with | some i=>(i:Int) | none=>-1)) m'):CallV cx n_slices_IndexFunc_prog_Prog [.slice a n c,v] m Q:=by
 apply G_slices_IndexFunc_prog_Prog_ok; unfold G_slices_IndexFunc_prog_Prog
 refine forN hn (fun k m1=>Keep m m1∧∀ j x,j < k→l[j]? = some x→f x=false) ⟨Keep.refl hw,fun j x hj=>by omega⟩ ?_
 rintro k m1 hk ⟨k1,hb⟩ I w hI
 refine split_lt (fun hlt=>?_) (fun hge=>?_)
 ·obtain ⟨x,hx⟩:=ha.get hlt
  refine ha.open hx fun b o hc=>?_
  have hc1:=hc.keep hw k1
  refine ⟨x.1,hc1 0 _ rfl,x.2,hc1 1 _ rfl,hf x m1 _ k1 fun m2 k2=>⟨_,rfl,split_b (fun h1=>?_) (fun h1=>?_)⟩⟩
  ·refine leaf h (k1.trans k2) ?_
   obtain ⟨hlk1,hlk2⟩:=(List.getElem?_eq_some_iff.1 hx)
   have:l.findIdx? f=some k:=List.findIdx?_eq_some_iff_getElem.2 ⟨hlk1,by rw [hlk2]; exact h1,fun j hj=>by rw [hb j _ hj (List.getElem?_eq_getElem (by omega))]; simp⟩
   rw [this]
  ·exact hI m2 hlt ⟨k1.trans k2,fun j y hj hy=>by
    by_cases e:j=k
    ·subst e; rw [hx] at hy; cases hy; exact h1
    ·exact hb j y (by omega) hy⟩
 ·refine leaf h k1 ?_
  have:l.findIdx? f=none:=List.findIdx?_eq_none_iff.2 fun x hx=>by
   obtain ⟨i,hi⟩:=List.getElem?_of_mem hx
   have:=(List.getElem?_eq_some_iff.1 hi).1
   exact hb i x (by have:=ha.1; omega) hi
  rw [this]
theorem anyP_ok {v:Value} {f:pm.Step→Bool} {a:Option Addr} {n c:Nat} {l:List pm.Step} (hw:Wf m) (ha:Arr encP 2 m a n l) (hn:n≤4611686018427387904)
  (hf:∀ x m1 (R:Value→Mem→Prop),Keep m m1→(∀ m2,Keep m1 m2→R (.bool (f x)) m2)→vCallFV cx m1 v [.agg #[.int .i64 x.1,.int .i64 x.2]] R)
  (h:∀ m',Keep m m'→Q (.bool (l.any f)) m'):CallV cx n_slices_ContainsFunc_prog_Prog [.slice a n c,v] m Q:=by
 apply G_slices_ContainsFunc_prog_Prog_ok; unfold G_slices_ContainsFunc_prog_Prog
 refine idxP_ok hw ha hn hf fun m1 k1=>⟨_,rfl,?_⟩
 rw [leI_idx]; exact h m1 k1
theorem pOdd_ok {x y:Int} (hw:Wf m) (h:∀ m',Keep m m'→Q (.bool (pm.pOdd (x,y))) m'):CallV cx n_prog_Good_1 [.agg #[.int .i64 x,.int .i64 y]] m Q:=by
 apply G_prog_Good_1_ok; unfold G_prog_Good_1
 have k:Keep m (bump m 1):=(Keep.refl hw).bump
 refine split_b (fun h1=>?_) (fun h1=>split_b (fun h2=>?_) (fun h2=>split_b (fun h3=>?_) (fun h3=>?_)))
 ·exact leaf h k (by simp [pm.pOdd,h1])
 ·exact leaf h k (by simp [pm.pOdd,h1,h2])
 ·exact leaf h k (by simp [pm.pOdd,h1,h2,h3])
 ·exact leaf h k (by simp [pm.pOdd,h1,h2,h3])
theorem pGood_ok {a:Option Addr} {n c:Nat} {p:List pm.Step} (hw:Wf m) (ha:Arr encP 2 m a n p) (h:∀ m',Keep m m'→Q (.bool (pm.pGood p)) m'):CallV cx n_prog_Good [.slice a n c] m Q:=by
 apply G_prog_Good_ok; unfold G_prog_Good
 have hl:=ha.1
 subst hl
 refine split_b (fun h1=>split_b (fun h2=>?_) (fun h2=>?_)) (fun h1=>?_)
 ·refine anyP_ok (f:=pm.pOdd) hw ha (by have:=leI_true.1 h2; simp [lenI] at this; omega) (fun x m1 R k1 hR=>pOdd_ok k1.wf hR) fun m1 k1=>⟨_,rfl,?_⟩
  exact leaf h k1 (by simp [pm.pGood,h1,h2])
 ·exact leaf h (Keep.refl hw) (by simp [pm.pGood,h1,h2])
 ·exact leaf h (Keep.refl hw) (by simp [pm.pGood,h1])
theorem pGood_len {p:List pm.Step} (h:pm.pGood p=true):1≤p.length∧p.length≤8:=by
 unfold pm.pGood at h
 simp only [Bool.and_eq_true,leI_true,lenI] at h
 omega
theorem pFits_ok {a a2:Option Addr} {n c n2 c2:Nat} {p:List pm.Step} (hw:Wf m) (ha:Arr encP 2 m a n p) (h:∀ m',Keep m m'→Q (.bool (pm.pFits p n2)) m'):CallV cx n_prog_Fits [.slice a n c,.slice a2 n2 c2] m Q:=by
 apply G_prog_Fits_ok; unfold G_prog_Fits
 rw [mBind_iff]
 have k0:Keep m (newO m (row [.slice a2 n2 c2] t_sl_int64 false)):=(Keep.refl hw).newO
 have hR:Row (newO m (row [.slice a2 n2 c2] t_sl_int64 false)) m.nx [.slice a2 n2 c2] t_sl_int64 false:=Row.newO
 generalize newO m (row [.slice a2 n2 c2] t_sl_int64 false)=m0 at k0 hR
 have ha0:=ha.keep hw k0
 refine pGood_ok k0.wf ha0 fun m1 k1=>⟨_,rfl,split_b (fun h1=>?_) (fun h1=>?_)⟩
 ·have hR1:=k1.row k0.wf hR
  refine anyP_ok (f:=fun s=>ltI (lenI n2) s.1) k1.wf (ha0.keep k0.wf k1) (by have:=pGood_len h1; have:=ha.1; omega) (fun x m2 R k2 hRR=>?_) fun m2 k2=>⟨_,rfl,?_⟩
  ·show CallV cx n_prog_Fits_1 [.agg #[.int .i64 x.1,.int .i64 x.2],.pointer (some ⟨m.nx,0,none⟩)] m2 R
   apply G_prog_Fits_1_ok; unfold G_prog_Fits_1
   rw [vPtr_some]
   refine ⟨a2,n2,c2,by rw [rd_bump,(k2.row k1.wf hR1).rd]; rfl,hRR _ (Keep.refl k2.wf).bump⟩
  ·exact leaf h ((k0.trans k1).trans k2) (by simp [pm.pFits,h1])
 ·exact leaf h (k0.trans k1) (by simp [pm.pFits,h1])
theorem cur_get {j:pm.Job} {k:Nat} (h:j.at_=(k:Int)) (hk:k < j.prog.length):j.prog[k]? = some j.cur:=by
 unfold pm.Job.cur
 rw [h,Int.toNat_natCast,List.getD_eq_getElem?_getD,List.getElem?_eq_getElem hk]; rfl
theorem jGood_ok {num at_ done:Int} {a:Option Addr} {n c:Nat} {p:List pm.Step} (hw:Wf m) (ha:Arr encP 2 m a n p) (h:∀ m',Keep m m'→Q (.bool (pm.jGood ⟨num,p,at_,done⟩)) m') :
  CallV cx n_job_Good [.agg #[.int .i64 num,.slice a n c,.int .i64 at_,.int .i64 done]] m Q:=by
 apply G_job_Good_ok; unfold G_job_Good joinK; dsimp only
 have k0:Keep m (bump m 1):=(Keep.refl hw).bump
 have hl:=ha.1
 refine split_b (fun h1=>?_) (fun h1=>?_)
 ·exact leaf h k0 (by simp [pm.jGood,h1])
 refine pGood_ok k0.wf (ha.keep hw k0) fun m1 k1=>⟨_,rfl,?_⟩
 have k:=k0.trans k1
 refine split_nb (fun h2=>?_) (fun h2=>?_)
 ·exact leaf h k (by simp [pm.jGood,h1,h2])
 refine split_b (fun h3=>?_) (fun h3=>?_)
 ·exact leaf h k (by simp [pm.jGood,h1,h2,h3])
 subst hl
 refine split_b (fun h4=>?_) (fun h4=>?_)
 ·exact leaf h k (by simp [pm.jGood,h1,h2,h3,h4])
 refine split_b (fun h5=>?_) (fun h5=>?_)
 ·exact leaf h k (by simp [pm.jGood,h1,h2,h3,h4,h5])
 refine split_b (fun h6=>?_) (fun h6=>?_)
 ·exact leaf h k (by simp [pm.jGood,h1,h2,h3,h4,h5,h6])
 ·have g3:=ltI_false.1 h3
  have g4:=ltI_false.1 h4
  have g6:=eqI_false.1 h6
  simp only [lenI] at g4 g6
  obtain ⟨i,rfl⟩:∃ i:Nat,at_=(i:Int):=⟨at_.toNat,by omega⟩
  have hlt:i < p.length:=by omega
  have hx:=cur_get (j:=⟨num,p,(i:Int),done⟩) rfl hlt
  refine ha.open hx fun b o hc=>?_
  refine ⟨_,rd_keep (k.bump (n:=11)) hw (hc 1 _ rfl),?_⟩
  exact leaf h k.bump (by simp [pm.jGood,h1,h2,h3,h4,h5,h6])
theorem jStep_ok {num at_ done:Int} {a:Option Addr} {n c:Nat} {p:List pm.Step} (hw:Wf m) (ha:Arr encP 2 m a n p) (h:∀ m',Keep m m'→Q (.tuple #[.agg #[.int .i64 (pm.jStep ⟨num,p,at_,done⟩).1.1,.int .i64 (pm.jStep ⟨num,p,at_,done⟩).1.2],.bool (pm.jStep ⟨num,p,at_,done⟩).2]) m') :
  CallV cx n_job_Step [.agg #[.int .i64 num,.slice a n c,.int .i64 at_,.int .i64 done]] m Q:=by
 apply G_job_Step_ok; unfold G_job_Step joinK; dsimp only
 have k0:Keep m (bump m 2):=(Keep.refl hw).bump
 have hl:=ha.1
 refine jGood_ok k0.wf (ha.keep hw k0) fun m1 k1=>⟨_,rfl,?_⟩
 have k:=k0.trans k1
 subst hl
 refine split_nb (fun h1=>?_) (fun h1=>?_)
 ·rw [splitB_true]; exact leaf h k (by simp [pm.jStep,h1])
 refine split_b (fun h2=>?_) (fun h2=>?_)
 ·exact leaf h k (by simp [pm.jStep,h1,h2])
 ·have g:=h1
  unfold pm.jGood at g
  simp only [Bool.and_eq_true,Bool.not_eq_true'] at g
  obtain ⟨_,_,g3,g4,_⟩:=g
  have g3:=ltI_false.1 g3
  have g4:=ltI_false.1 g4
  have g6:=eqI_false.1 h2
  simp only [lenI] at g4 g6
  obtain ⟨i,rfl⟩:∃ i:Nat,at_=(i:Int):=⟨at_.toNat,by omega⟩
  have hlt:i < p.length:=by omega
  have hx:=cur_get (j:=⟨num,p,(i:Int),done⟩) rfl hlt
  refine ha.open hx fun b o hc=>?_
  refine ⟨_,rd_keep k hw (hc 0 _ rfl),_,rd_keep k hw (hc 1 _ rfl),?_⟩
  exact leaf h k (by simp [pm.jStep,h1,h2])
theorem jRun_ok {num at_ done x:Int} {a:Option Addr} {n c:Nat} {p:List pm.Step} (hw:Wf m) (ha:Arr encP 2 m a n p)
  (h:∀ m',Keep m m'→Q (.tuple #[jobV (pm.jRun ⟨num,p,at_,done⟩ x).1 a n c,.int .i64 (pm.jRun ⟨num,p,at_,done⟩ x).2]) m') :
  CallV cx n_job_Run [.agg #[.int .i64 num,.slice a n c,.int .i64 at_,.int .i64 done],.int .i64 x] m Q:=by
 apply G_job_Run_ok; unfold G_job_Run
 have k0:Keep m (bump m 2):=(Keep.refl hw).bump
 refine jStep_ok k0.wf (ha.keep hw k0) fun m1 k1=>⟨_,_,_,rfl,?_⟩
 have k:=(k0.trans k1).bump (n:=1)
 refine split_nb (fun h1=>?_) (fun h1=>?_)
 ·exact leaf h k (by simp [pm.jRun,h1])
 ·exact leaf h k (by simp [pm.jRun,h1])
theorem jNext_ok {num at_ done:Int} {a:Option Addr} {n c:Nat} {p:List pm.Step} (hw:Wf m) (ha:Arr encP 2 m a n p)
  (h:∀ m',Keep m m'→Q (.tuple #[jobV (pm.jNext ⟨num,p,at_,done⟩).1 a n c,.bool (pm.jNext ⟨num,p,at_,done⟩).2]) m') :
  CallV cx n_job_Next [.agg #[.int .i64 num,.slice a n c,.int .i64 at_,.int .i64 done]] m Q:=by
 apply G_job_Next_ok; unfold G_job_Next joinK; dsimp only
 have k0:Keep m (bump m 2):=(Keep.refl hw).bump
 refine jStep_ok k0.wf (ha.keep hw k0) fun m1 k1=>⟨_,_,_,rfl,?_⟩
 have k:=(k0.trans k1).bump (n:=1)
 refine split_nb (fun h1=>?_) (fun h1=>?_)
 ·rw [splitB_true]; exact leaf h k (by simp [pm.jNext,h1])
 refine split_b (fun h2=>?_) (fun h2=>?_)
 ·exact leaf h k (by simp [pm.jNext,h1,h2])
 ·exact leaf h k (by simp [pm.jNext,h1,h2])
theorem jNew_ok {num:Int} {a:Option Addr} {n c:Nat} {p:List pm.Step} (hw:Wf m) (ha:Arr encP 2 m a n p) (hg:pm.pGood p=true)
  (h:∀ m' a' c',Keep m m'→Arr encP 2 m' a' n (pm.jNew num p).1.prog∨(pm.jNew num p).2=false→(∀ b∈blk a',m.nx≤b)→Q (.tuple #[jobV (pm.jNew num p).1 (bif (pm.jNew num p).2 then a' else none) (bif (pm.jNew num p).2 then n else 0) (bif (pm.jNew num p).2 then c' else 0),.bool (pm.jNew num p).2]) m') :
  CallV cx n_job_New [.int .i64 num,.slice a n c] m Q:=by
 apply G_job_New_ok; unfold G_job_New joinK; dsimp only
 have k0:Keep m (bump m 1):=(Keep.refl hw).bump
 refine pGood_ok k0.wf (ha.keep hw k0) fun m1 k1=>⟨_,rfl,?_⟩
 have k:=k0.trans k1
 have hl:=ha.1
 refine split_nb (fun h1=>?_) (fun h1=>?_)
 ·rw [hg] at h1; cases h1
 refine split_b (fun h2=>?_) (fun h2=>?_)
 ·have:=h m1 none 0 k (.inr (by simp [pm.jNew,h1,h2])) (fun b hb=>by cases hb)
  simpa [pm.jNew,h1,h2] using this
 ·rw [mBind_iff]
  have k2:Keep m (newO m1 (row [] t_prog_Step false)):=k.newO
  have hb:(newO m1 (row [] t_prog_Step false)).hp.get m1.nx=some (row [] t_prog_Step false):=by rw [newO_get,if_pos rfl]
  generalize newO m1 (row [] t_prog_Step false)=m2 at k2 hb
  have ha2:=ha.keep hw k2
  have hlen:=pGood_len hg
  have hap:=append_new (cx:=cx) (t:=t_prog_Prog) (e:=t_prog_Step) (s:=2) (m:=m2) (n:=0) (k:=n) (c:=0) (ck:=c) (a:=some ⟨m1.nx,0,none⟩) (v:=a) (old:=[]) (new:=p.flatMap encP) (by kernel_rfl)
   (by unfold giveUp; simp only [hb,row]) rfl (by simp) (ha2.first encP_len (by omega)) (by rw [flat_length encP_len,hl]) (by
    rw [List.all_eq_true]
    intro v hv
    obtain ⟨x,_,hx⟩:=List.mem_flatMap.1 hv
    simp [encP] at hx
    rcases hx with rfl | rfl <;> rfl) (by omega) (by omega)
  rw [List.nil_append,Nat.zero_add] at hap
  refine ⟨_,_,_,_,hap,?_⟩
  have k3:Keep m (newO m2 (row (p.flatMap encP) t_prog_Step true)):=k2.newO
  have hR:Row (newO m2 (row (p.flatMap encP) t_prog_Step true)) m2.nx (p.flatMap encP) t_prog_Step true:=Row.newO
  have hA:=Arr.of_row encP_len hR
  rw [hl] at hA
  have e1:pm.jNew num p=(⟨num,p,0,0⟩,true):=by simp [pm.jNew,h1,h2]
  have:=h _ (some ⟨m2.nx,0,none⟩) n k3 (.inl (by rw [e1]; exact hA)) (fun b hb=>by simp [blk] at hb; subst hb; exact k2.nx)
  rw [e1] at this
  exact this
end
end Go.Proofs.YtiehbnmpaeedpaaGreat.vc
