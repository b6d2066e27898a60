import Derived.Test.YtiehbnmpaeedpaaGreatQA22
import Derived.KernelRfl
import Derived.Test.YtiehbnmpaeedpaaGreatQA21
import Derived.Test.YtiehbnmpaeedpaaGreatQA03
namespace Go.Proofs.YtiehbnmpaeedpaaGreat.vc
open Go Go.AX
set_option linter.unusedVariables false
set_option maxRecDepth 100000
noncomputable section
def G_tick_Good (a:Int) (m:Mem) (Q:Value→Mem→Prop):Prop:=
 splitB (leI 0 a) (Q (.bool (leI a 4611686018427387904)) m) (Q (.bool false) m)
theorem G_tick_Good_ok {a:Int} {m:Mem} {Q:Value→Mem→Prop} (h:G_tick_Good a m Q):CallV cx n_tick_Good [.int .i64 a] m Q:=
 CallV.of (fn:=Tryz.f82) (LS:=[]) (ann:=[]) ovFr ovNi (by kernel_rfl) (by kernel_rfl) (Eq.mp (by kernel_rfl) h)
def G_tick_good (d:Int) (m:Mem) (Q:Value→Mem→Prop):Prop:=
 CallV cx n_tick_Good [.int .i64 d] m fun c a=>∃ b,c=(.bool b)∧splitB (!b) (Q (.tuple #[.int .i64 0,.bool false]) a) (Q (.tuple #[.int .i64 d,.bool true]) a)
theorem G_tick_good_ok {d:Int} {m:Mem} {Q:Value→Mem→Prop} (h:G_tick_good d m Q):CallV cx n_tick_good [.int .i64 d] m Q:=
 CallV.of (fn:=Tryz.f120) (LS:=[]) (ann:=[]) ovFr ovNi (by kernel_rfl) (by kernel_rfl) (Eq.mp (by kernel_rfl) h)
def G_tick_in (a c b:Int) (m:Mem) (Q:Value→Mem→Prop):Prop:=
 splitB (leI c a) (Q (.bool (leI a b)) m) (Q (.bool false) m)
theorem G_tick_in_ok {a c b:Int} {m:Mem} {Q:Value→Mem→Prop} (h:G_tick_in a c b m Q):CallV cx n_tick_in [.int .i64 a,.int .i64 c,.int .i64 b] m Q:=
 CallV.of (fn:=Tryz.f121) (LS:=[]) (ann:=[]) ovFr ovNi (by kernel_rfl) (by kernel_rfl) (Eq.mp (by kernel_rfl) h)
def G_tick_Add (j i:Int) (m:Mem) (Q:Value→Mem→Prop):Prop:=
 joinK (fun (k:Mem)=>CallV cx n_tick_good [.int .i64 (addI .i64 j i)] k fun l g=>∃ c a,l=(.tuple #[.int .i64 c,.bool a])∧Q (.tuple #[.int .i64 c,.bool a]) g) fun o=>CallV cx n_tick_Good [.int .i64 j] m fun n b=>∃ e,n=(.bool e)∧splitB (!e) (Q (.tuple #[.int .i64 0,.bool false]) b) (CallV cx n_tick_Good [.int .i64 i] b fun p d=>∃ f,p=(.bool f)∧splitB (!f) (Q (.tuple #[.int .i64 0,.bool false]) d) (o d))
theorem G_tick_Add_ok {j i:Int} {m:Mem} {Q:Value→Mem→Prop} (h:G_tick_Add j i m Q):CallV cx n_tick_Add [.int .i64 j,.int .i64 i] m Q:=
 CallV.of (fn:=Tryz.f83) (LS:=[]) (ann:=[none,some ⟨[0,1],[],[],[],[],0⟩]) ovFr ovNi (by kernel_rfl) (by kernel_rfl) (Eq.mp (by kernel_rfl) h)
def G_tick_Share (k i a:Int) (m:Mem) (Q:Value→Mem→Prop):Prop:=
 joinK (fun (l:Mem)=>a≠0∧Q (.tuple #[.int .i64 (quoI .i64 (mulI .i64 k i) a),.bool true]) l) fun n=>CallV cx n_tick_in [.int .i64 k,.int .i64 0,.int .i64 2147483648] m fun o c=>∃ e,o=(.bool e)∧splitB (!e) (Q (.tuple #[.int .i64 0,.bool false]) c) (CallV cx n_tick_in [.int .i64 a,.int .i64 1,.int .i64 2147483648] c fun p d=>∃ b,p=(.bool b)∧splitB (!b) (Q (.tuple #[.int .i64 0,.bool false]) d) (CallV cx n_tick_in [.int .i64 i,.int .i64 0,.int .i64 a] d fun j f=>∃ g,j=(.bool g)∧splitB (!g) (Q (.tuple #[.int .i64 0,.bool false]) f) (n f)))
theorem G_tick_Share_ok {k i a:Int} {m:Mem} {Q:Value→Mem→Prop} (h:G_tick_Share k i a m Q):CallV cx n_tick_Share [.int .i64 k,.int .i64 i,.int .i64 a] m Q:=
 CallV.of (fn:=Tryz.f85) (LS:=[]) (ann:=[none,some ⟨[0,1,2],[],[],[],[],0⟩]) ovFr ovNi (by kernel_rfl) (by kernel_rfl) (Eq.mp (by kernel_rfl) h)
def G_tick_Up (g a b:Int) (m:Mem) (Q:Value→Mem→Prop):Prop:=
 joinK (fun (i:Mem)=>splitB (ltI g a) (Q (.tuple #[.int .i64 a,.bool true]) i) (b≠0∧(CallV cx n_tick_good [.int .i64 (addI .i64 a (mulI .i64 (addI .i64 (quoI .i64 (subI .i64 g a) b) 1) b))] i fun q o=>∃ k e,q=(.tuple #[.int .i64 k,.bool e])∧Q (.tuple #[.int .i64 k,.bool e]) o))) fun r=>CallV cx n_tick_Good [.int .i64 g] m fun s j=>∃ l,s=(.bool l)∧splitB (!l) (Q (.tuple #[.int .i64 0,.bool false]) j) (CallV cx n_tick_Good [.int .i64 a] j fun t n=>∃ c,t=(.bool c)∧splitB (!c) (Q (.tuple #[.int .i64 0,.bool false]) n) (CallV cx n_tick_in [.int .i64 b,.int .i64 1,.int .i64 2147483648] n fun p f=>∃ d,p=(.bool d)∧splitB (!d) (Q (.tuple #[.int .i64 0,.bool false]) f) (r f)))
theorem G_tick_Up_ok {g a b:Int} {m:Mem} {Q:Value→Mem→Prop} (h:G_tick_Up g a b m Q):CallV cx n_tick_Up [.int .i64 g,.int .i64 a,.int .i64 b] m Q:=
 CallV.of (fn:=Tryz.f93) (LS:=[]) (ann:=[none,some ⟨[0,1,2],[],[],[],[],0⟩]) ovFr ovNi (by kernel_rfl) (by kernel_rfl) (Eq.mp (by kernel_rfl) h)
def G_cbs_pair (b a:Int) (m:Mem) (Q:Value→Mem→Prop):Prop:=
 splitB (leI 1 a) (splitB (leI a 2147483648) (splitB (leI 1 b) (Q (.bool (leI b a)) m) (Q (.bool false) m)) (Q (.bool false) m)) (Q (.bool false) m)
theorem G_cbs_pair_ok {b a:Int} {m:Mem} {Q:Value→Mem→Prop} (h:G_cbs_pair b a m Q):CallV cx n_cbs_pair [.int .i64 b,.int .i64 a] m Q:=
 CallV.of (fn:=Tryz.f70) (LS:=[]) (ann:=[]) ovFr ovNi (by kernel_rfl) (by kernel_rfl) (Eq.mp (by kernel_rfl) h)
def G_cbs_New (d c:Int) (m:Mem) (Q:Value→Mem→Prop):Prop:=
 CallV cx n_cbs_pair [.int .i64 d,.int .i64 c] (bump m 1) fun e b=>∃ a,e=(.bool a)∧splitB (!a) (Q (.tuple #[.agg #[.int .i64 0,.int .i64 0,.int .i64 0,.int .i64 0,.int .i64 0],.int .i64 1]) b) (Q (.tuple #[.agg #[.int .i64 d,.int .i64 c,.int .i64 0,.int .i64 0,.int .i64 0],.int .i64 0]) b)
theorem G_cbs_New_ok {d c:Int} {m:Mem} {Q:Value→Mem→Prop} (h:G_cbs_New d c m Q):CallV cx n_cbs_New [.int .i64 d,.int .i64 c] m Q:=
 CallV.of (fn:=Tryz.f33) (LS:=[4]) (ann:=[]) ovFr ovNi (by kernel_rfl) (by kernel_rfl) (Eq.mp (by kernel_rfl) h)
def G_cbs_Good (j l d k f:Int) (m:Mem) (Q:Value→Mem→Prop):Prop:=
 CallV cx n_cbs_pair [.int .i64 j,.int .i64 l] (bump m 1) fun g b=>∃ c,g=(.bool c)∧splitB c (splitB (leI 0 d) (splitB (leI d j) (CallV cx n_tick_Good [.int .i64 k] b fun i a=>∃ e,i=(.bool e)∧splitB e (splitB (leI 0 f) (splitB (leI f 2) (splitB (neI f 1) (Q (.bool true) a) (Q (.bool (ltI 0 d)) a)) (Q (.bool false) a)) (Q (.bool false) a)) (Q (.bool false) a)) (Q (.bool false) b)) (Q (.bool false) b)) (Q (.bool false) b)
theorem G_cbs_Good_ok {j l d k f:Int} {m:Mem} {Q:Value→Mem→Prop} (h:G_cbs_Good j l d k f m Q):CallV cx n_cbs_Good [.agg #[.int .i64 j,.int .i64 l,.int .i64 d,.int .i64 k,.int .i64 f]] m Q:=
 CallV.of (fn:=Tryz.f81) (LS:=[1]) (ann:=[]) ovFr ovNi (by kernel_rfl) (by kernel_rfl) (Eq.mp (by kernel_rfl) h)
def G_cbs_ready (d c a b e:Int) (m:Mem) (Q:Value→Mem→Prop):Prop:=
 splitB (eqI a 0) (Q (.agg #[.int .i64 d,.int .i64 c,.int .i64 a,.int .i64 b,.int .i64 2]) (bump m 2)) (Q (.agg #[.int .i64 d,.int .i64 c,.int .i64 a,.int .i64 b,.int .i64 1]) (bump m 2))
theorem G_cbs_ready_ok {d c a b e:Int} {m:Mem} {Q:Value→Mem→Prop} (h:G_cbs_ready d c a b e m Q):CallV cx n_cbs_ready [.agg #[.int .i64 d,.int .i64 c,.int .i64 a,.int .i64 b,.int .i64 e]] m Q:=
 CallV.of (fn:=Tryz.f84) (LS:=[1,2]) (ann:=[]) ovFr ovNi (by kernel_rfl) (by kernel_rfl) (Eq.mp (by kernel_rfl) h)
def G_cbs_Wake (b a f c d g:Int) (m:Mem) (Q:Value→Mem→Prop):Prop:=
 joinK (fun (T:Bool) (e:Mem)=>splitB T (Q (.tuple #[.agg #[.int .i64 b,.int .i64 a,.int .i64 f,.int .i64 c,.int .i64 d],.int .i64 1]) e) (splitB (neI d 0) (Q (.tuple #[.agg #[.int .i64 b,.int .i64 a,.int .i64 f,.int .i64 c,.int .i64 d],.int .i64 5]) e) (splitB (leI c g) (CallV cx n_tick_Add [.int .i64 g,.int .i64 a] e fun M s=>∃ w u,M=(.tuple #[.int .i64 w,.bool u])∧splitB (!u) (Q (.tuple #[.agg #[.int .i64 b,.int .i64 a,.int .i64 f,.int .i64 c,.int .i64 d],.int .i64 6]) s) (CallV cx n_cbs_ready [.agg #[.int .i64 b,.int .i64 a,.int .i64 b,.int .i64 w,.int .i64 d]] s fun I P=>∃ o x y r q,I=(.agg #[.int .i64 o,.int .i64 x,.int .i64 y,.int .i64 r,.int .i64 q])∧Q (.tuple #[.agg #[.int .i64 o,.int .i64 x,.int .i64 y,.int .i64 r,.int .i64 q],.int .i64 0]) P)) (joinK (fun (O:Int) (K:Int) (R:Int) (V:Int) (N:Int) (U:Mem)=>CallV cx n_cbs_ready [.agg #[.int .i64 O,.int .i64 K,.int .i64 R,.int .i64 V,.int .i64 N]] U fun E L=>∃ z l p v k,E=(.agg #[.int .i64 z,.int .i64 l,.int .i64 p,.int .i64 v,.int .i64 k])∧Q (.tuple #[.agg #[.int .i64 z,.int .i64 l,.int .i64 p,.int .i64 v,.int .i64 k],.int .i64 0]) L) fun i=>splitB (ltI (mulI .i64 (mnI (subI .i64 c g) a) b) (mulI .i64 f a)) (CallV cx n_tick_Share [.int .i64 (mnI (subI .i64 c g) a),.int .i64 b,.int .i64 a] e fun S H=>∃ j C,S=(.tuple #[.int .i64 j,.bool C])∧i b a j c d H) (i b a f c d e))))) fun n=>CallV cx n_cbs_Good [.agg #[.int .i64 b,.int .i64 a,.int .i64 f,.int .i64 c,.int .i64 d]] (bump m 2) fun F B=>∃ A,F=(.bool A)∧splitB (!A) (n true B) (CallV cx n_tick_Good [.int .i64 g] B fun D G=>∃ t,D=(.bool t)∧n (!t) G)
theorem G_cbs_Wake_ok {b a f c d g:Int} {m:Mem} {Q:Value→Mem→Prop} (h:G_cbs_Wake b a f c d g m Q):CallV cx n_cbs_Wake [.agg #[.int .i64 b,.int .i64 a,.int .i64 f,.int .i64 c,.int .i64 d],.int .i64 g] m Q:=
 CallV.of (fn:=Tryz.f41) (LS:=[2,4]) (ann:=[none,none,some ⟨[1],[(9,.bool)],[(2,0,0),(4,1,0)],[0,1],[],2⟩,none,none,none,none,none,none,none,none,none,none,none,none,some ⟨[],[(76,.int .i64),(77,.int .i64),(78,.int .i64),(79,.int .i64),(80,.int .i64)],[(2,0,0),(4,1,0)],[1],[(0,[76,77,78,79,80])],4⟩]) ovFr ovNi (by kernel_rfl) (by kernel_rfl) (Eq.mp (by kernel_rfl) h)
def G_cbs_Use (d i b c a o:Int) (m:Mem) (Q:Value→Mem→Prop):Prop:=
 joinK (fun (t:Bool) (e:Mem)=>splitB t (Q (.tuple #[.agg #[.int .i64 d,.int .i64 i,.int .i64 b,.int .i64 c,.int .i64 a],.int .i64 1]) e) (splitB (neI a 1) (Q (.tuple #[.agg #[.int .i64 d,.int .i64 i,.int .i64 b,.int .i64 c,.int .i64 a],.int .i64 4]) e) (CallV cx n_cbs_ready [.agg #[.int .i64 d,.int .i64 i,.int .i64 (subI .i64 b o),.int .i64 c,.int .i64 a]] e fun s r=>∃ p l n k j,s=(.agg #[.int .i64 p,.int .i64 l,.int .i64 n,.int .i64 k,.int .i64 j])∧Q (.tuple #[.agg #[.int .i64 p,.int .i64 l,.int .i64 n,.int .i64 k,.int .i64 j],.int .i64 0]) r))) fun g=>CallV cx n_cbs_Good [.agg #[.int .i64 d,.int .i64 i,.int .i64 b,.int .i64 c,.int .i64 a]] (bump m 2) fun u f=>∃ q,u=(.bool q)∧splitB (!q) (g true f) (splitB (ltI o 1) (g true f) (g (ltI b o) f))
theorem G_cbs_Use_ok {d i b c a o:Int} {m:Mem} {Q:Value→Mem→Prop} (h:G_cbs_Use d i b c a o m Q):CallV cx n_cbs_Use [.agg #[.int .i64 d,.int .i64 i,.int .i64 b,.int .i64 c,.int .i64 a],.int .i64 o] m Q:=
 CallV.of (fn:=Tryz.f86) (LS:=[2,4]) (ann:=[none,none,some ⟨[1],[(6,.bool)],[(2,0,0),(4,1,0)],[0,1],[],2⟩]) ovFr ovNi (by kernel_rfl) (by kernel_rfl) (Eq.mp (by kernel_rfl) h)
def G_cbs_Idle (d b c a f:Int) (m:Mem) (Q:Value→Mem→Prop):Prop:=
 CallV cx n_cbs_Good [.agg #[.int .i64 d,.int .i64 b,.int .i64 c,.int .i64 a,.int .i64 f]] (bump m 2) fun i e=>∃ g,i=(.bool g)∧splitB (!g) (Q (.tuple #[.agg #[.int .i64 d,.int .i64 b,.int .i64 c,.int .i64 a,.int .i64 f],.int .i64 1]) e) (splitB (eqI f 0) (Q (.tuple #[.agg #[.int .i64 d,.int .i64 b,.int .i64 c,.int .i64 a,.int .i64 f],.int .i64 4]) e) (Q (.tuple #[.agg #[.int .i64 d,.int .i64 b,.int .i64 c,.int .i64 a,.int .i64 0],.int .i64 0]) e))
theorem G_cbs_Idle_ok {d b c a f:Int} {m:Mem} {Q:Value→Mem→Prop} (h:G_cbs_Idle d b c a f m Q):CallV cx n_cbs_Idle [.agg #[.int .i64 d,.int .i64 b,.int .i64 c,.int .i64 a,.int .i64 f]] m Q:=
 CallV.of (fn:=Tryz.f92) (LS:=[1,2]) (ann:=[]) ovFr ovNi (by kernel_rfl) (by kernel_rfl) (Eq.mp (by kernel_rfl) h)
def G_cbs_Wait (d b c a f:Int) (m:Mem) (Q:Value→Mem→Prop):Prop:=
 CallV cx n_cbs_Good [.agg #[.int .i64 d,.int .i64 b,.int .i64 c,.int .i64 a,.int .i64 f]] (bump m 2) fun i e=>∃ g,i=(.bool g)∧splitB (!g) (Q (.tuple #[.agg #[.int .i64 d,.int .i64 b,.int .i64 c,.int .i64 a,.int .i64 f],.int .i64 1]) e) (splitB (neI f 1) (Q (.tuple #[.agg #[.int .i64 d,.int .i64 b,.int .i64 c,.int .i64 a,.int .i64 f],.int .i64 4]) e) (Q (.tuple #[.agg #[.int .i64 d,.int .i64 b,.int .i64 c,.int .i64 a,.int .i64 2],.int .i64 0]) e))
theorem G_cbs_Wait_ok {d b c a f:Int} {m:Mem} {Q:Value→Mem→Prop} (h:G_cbs_Wait d b c a f m Q):CallV cx n_cbs_Wait [.agg #[.int .i64 d,.int .i64 b,.int .i64 c,.int .i64 a,.int .i64 f]] m Q:=
 CallV.of (fn:=Tryz.f95) (LS:=[1,2]) (ann:=[]) ovFr ovNi (by kernel_rfl) (by kernel_rfl) (Eq.mp (by kernel_rfl) h)
def G_cbs_Turn (b d q a c u:Int) (m:Mem) (Q:Value→Mem→Prop):Prop:=
 joinK (fun (x:Bool) (l:Mem)=>splitB x (Q (.tuple #[.agg #[.int .i64 b,.int .i64 d,.int .i64 q,.int .i64 a,.int .i64 c],.bool false]) l) (CallV cx n_tick_Up [.int .i64 u,.int .i64 a,.int .i64 d] l fun t i=>∃ j k,t=(.tuple #[.int .i64 j,.bool k])∧splitB (!k) (Q (.tuple #[.agg #[.int .i64 b,.int .i64 d,.int .i64 q,.int .i64 a,.int .i64 c],.bool false]) i) (CallV cx n_cbs_ready [.agg #[.int .i64 b,.int .i64 d,.int .i64 b,.int .i64 j,.int .i64 c]] i fun v w=>∃ g n p s r,v=(.agg #[.int .i64 g,.int .i64 n,.int .i64 p,.int .i64 s,.int .i64 r])∧Q (.tuple #[.agg #[.int .i64 g,.int .i64 n,.int .i64 p,.int .i64 s,.int .i64 r],.bool true]) w))) fun f=>CallV cx n_cbs_Good [.agg #[.int .i64 b,.int .i64 d,.int .i64 q,.int .i64 a,.int .i64 c]] (bump m 2) fun y e=>∃ o,y=(.bool o)∧splitB (!o) (f true e) (splitB (eqI c 0) (f true e) (f (ltI u a) e))
theorem G_cbs_Turn_ok {b d q a c u:Int} {m:Mem} {Q:Value→Mem→Prop} (h:G_cbs_Turn b d q a c u m Q):CallV cx n_cbs_Turn [.agg #[.int .i64 b,.int .i64 d,.int .i64 q,.int .i64 a,.int .i64 c],.int .i64 u] m Q:=
 CallV.of (fn:=Tryz.f45) (LS:=[2,4]) (ann:=[none,none,some ⟨[1],[(21,.bool)],[(2,0,0),(4,1,0)],[0,1],[],2⟩]) ovFr ovNi (by kernel_rfl) (by kernel_rfl) (Eq.mp (by kernel_rfl) h)
def G_gate_Worst (c b:Int) (m:Mem) (Q:Value→Mem→Prop):Prop:=
 joinK (fun (e:Bool) (d:Mem)=>splitB e (Q (.tuple #[.int .i64 0,.int .i64 0,.bool false]) d) (Q (.tuple #[.int .i64 (mulI .i64 (subI .i64 c 1) b),.int .i64 (mulI .i64 c b),.bool true]) d)) fun a=>splitB (ltI c 1) (a true m) (splitB (ltI 64 c) (a true m) (splitB (ltI b 1) (a true m) (a (ltI 1048576 b) m)))
theorem G_gate_Worst_ok {c b:Int} {m:Mem} {Q:Value→Mem→Prop} (h:G_gate_Worst c b m Q):CallV cx n_gate_Worst [.int .i64 c,.int .i64 b] m Q:=
 CallV.of (fn:=Tryz.f123) (LS:=[]) (ann:=[none,none,some ⟨[0,1],[(20,.bool)],[],[],[],0⟩]) ovFr ovNi (by kernel_rfl) (by kernel_rfl) (Eq.mp (by kernel_rfl) h)
def G_gate_Enough (j f g i:Int) (m:Mem) (Q:Value→Mem→Prop):Prop:=
 CallV cx n_gate_Worst [.int .i64 j,.int .i64 f] m fun d b=>∃ e a c,d=(.tuple #[.int .i64 e,.int .i64 a,.bool c])∧splitB c (splitB (leI a g) (Q (.bool (leI a i)) b) (Q (.bool false) b)) (Q (.bool false) b)
theorem G_gate_Enough_ok {j f g i:Int} {m:Mem} {Q:Value→Mem→Prop} (h:G_gate_Enough j f g i m Q):CallV cx n_gate_Enough [.int .i64 j,.int .i64 f,.int .i64 g,.int .i64 i] m Q:=
 CallV.of (fn:=Tryz.f94) (LS:=[]) (ann:=[]) ovFr ovNi (by kernel_rfl) (by kernel_rfl) (Eq.mp (by kernel_rfl) h)
def G_prog_Good_1 (a b:Int) (m:Mem) (Q:Value→Mem→Prop):Prop:=
 splitB (ltI a 0) (Q (.bool true) (bump m 1)) (splitB (ltI 8 a) (Q (.bool true) (bump m 1)) (splitB (ltI b 1) (Q (.bool true) (bump m 1)) (Q (.bool (ltI 2147483648 b)) (bump m 1))))
theorem G_prog_Good_1_ok {a b:Int} {m:Mem} {Q:Value→Mem→Prop} (h:G_prog_Good_1 a b m Q):CallV cx n_prog_Good_1 [.agg #[.int .i64 a,.int .i64 b]] m Q:=
 CallV.of (fn:=Tryz.f118) (LS:=[1]) (ann:=[]) ovFr ovNi (by kernel_rfl) (by kernel_rfl) (Eq.mp (by kernel_rfl) h)
def G_slices_IndexFunc_prog_Prog (r:Option Addr) (n s:Nat) (q:Value) (m:Mem) (Q:Value→Mem→Prop):Prop:=
 ∃ c:Int→Mem→Nat→Prop,(∃ o:Nat,c 0 m o)∧∀ a b e,c a b e→splitB (ltI a (lenI n)) ((0≤a∧a < ((n:Nat):Int))∧(vPtr r fun i g=>∃ f,rd b i (g+Int.toNat a*2)=some (.int .i64 f)∧∃ k,rd b i (g+Int.toNat a*2+1)=some (.int .i64 k)∧(vCallFV cx b q [.agg #[.int .i64 f,.int .i64 k]] fun p d=>∃ l,p=(.bool l)∧splitB l (Q (.int .i64 a) d) (∃ j:Nat,j < e∧c (addI .i64 a 1) d j)))) (Q (.int .i64 (-1:Int)) b)
theorem G_slices_IndexFunc_prog_Prog_ok {r:Option Addr} {n s:Nat} {q:Value} {m:Mem} {Q:Value→Mem→Prop} (h:G_slices_IndexFunc_prog_Prog r n s q m Q):CallV cx n_slices_IndexFunc_prog_Prog [.slice r n s,q] m Q:=
 CallV.of (fn:=Tryz.f119) (LS:=[]) (ann:=[none,none,none,some ⟨[0,1,7],[(8,.int .i64)],[],[],[],0⟩]) ovFr ovNi (by kernel_rfl) (by kernel_rfl) (Eq.mp (by kernel_rfl) h)
def G_slices_ContainsFunc_prog_Prog (e:Option Addr) (g d:Nat) (f:Value) (m:Mem) (Q:Value→Mem→Prop):Prop:=
 CallV cx n_slices_IndexFunc_prog_Prog [.slice e g d,f] m fun b c=>∃ a,b=(.int .i64 a)∧Q (.bool (leI 0 a)) c
theorem G_slices_ContainsFunc_prog_Prog_ok {e:Option Addr} {g d:Nat} {f:Value} {m:Mem} {Q:Value→Mem→Prop} (h:G_slices_ContainsFunc_prog_Prog e g d f m Q):CallV cx n_slices_ContainsFunc_prog_Prog [.slice e g d,f] m Q:=
 CallV.of (fn:=Tryz.f80) (LS:=[]) (ann:=[]) ovFr ovNi (by kernel_rfl) (by kernel_rfl) (Eq.mp (by kernel_rfl) h)
def G_prog_Good (f:Option Addr) (b e:Nat) (m:Mem) (Q:Value→Mem→Prop):Prop:=
 splitB (leI 1 (lenI b)) (splitB (leI (lenI b) 8) (CallV cx n_slices_ContainsFunc_prog_Prog [.slice f b e,.func (.func n_prog_Good_1) #[] #[]] m fun c d=>∃ a,c=(.bool a)∧Q (.bool (!a)) d) (Q (.bool false) m)) (Q (.bool false) m)
theorem G_prog_Good_ok {f:Option Addr} {b e:Nat} {m:Mem} {Q:Value→Mem→Prop} (h:G_prog_Good f b e m Q):CallV cx n_prog_Good [.slice f b e] m Q:=
 CallV.of (fn:=Tryz.f79) (LS:=[]) (ann:=[]) ovFr ovNi (by kernel_rfl) (by kernel_rfl) (Eq.mp (by kernel_rfl) h)
def G_prog_Fits_1 (g i:Int) (f:Option Addr) (m:Mem) (Q:Value→Mem→Prop):Prop:=
 vPtr f fun b e=>∃ c a d,rd (bump m 1) b e=some (.slice c a d)∧Q (.bool (ltI (lenI a) g)) (bump m 1)
theorem G_prog_Fits_1_ok {g i:Int} {f:Option Addr} {m:Mem} {Q:Value→Mem→Prop} (h:G_prog_Fits_1 g i f m Q):CallV cx n_prog_Fits_1 [.agg #[.int .i64 g,.int .i64 i],.pointer f] m Q:=
 CallV.of (fn:=Tryz.f78) (LS:=[2]) (ann:=[]) ovFr ovNi (by kernel_rfl) (by kernel_rfl) (Eq.mp (by kernel_rfl) h)
def G_prog_Fits (f n:Option Addr) (k d l o:Nat) (m:Mem) (Q:Value→Mem→Prop):Prop:=
 mBind (newO m (row [.slice n l o] t_sl_int64 false)) fun g=>CallV cx n_prog_Good [.slice f k d] g fun j b=>∃ c,j=(.bool c)∧splitB c (CallV cx n_slices_ContainsFunc_prog_Prog [.slice f k d,.func (.func n_prog_Fits_1) #[] #[.pointer (some ⟨m.nx,0,none⟩)]] b fun e i=>∃ a,e=(.bool a)∧Q (.bool (!a)) i) (Q (.bool false) b)
theorem G_prog_Fits_ok {f n:Option Addr} {k d l o:Nat} {m:Mem} {Q:Value→Mem→Prop} (h:G_prog_Fits f n k d l o m Q):CallV cx n_prog_Fits [.slice f k d,.slice n l o] m Q:=
 CallV.of (fn:=Tryz.f36) (LS:=[]) (ann:=[]) ovFr ovNi (by kernel_rfl) (by kernel_rfl) (Eq.mp (by kernel_rfl) h)
def G_job_Good (p b g:Int) (l:Option Addr) (d o:Nat) (m:Mem) (Q:Value→Mem→Prop):Prop:=
 joinK (fun (c:Mem)=>splitB (eqI b (lenI d)) (Q (.bool (eqI g 0)) c) ((0≤b∧b < ((d:Nat):Int))∧(vPtr l fun j i=>∃ e,rd (bump c 11) j (i+Int.toNat b*2+1)=some (.int .i64 e)∧Q (.bool (leI g e)) (bump c 11)))) fun k=>splitB (ltI p 1) (Q (.bool false) (bump m 1)) (CallV cx n_prog_Good [.slice l d o] (bump m 1) fun n a=>∃ f,n=(.bool f)∧splitB (!f) (Q (.bool false) a) (splitB (ltI b 0) (Q (.bool false) a) (splitB (ltI (lenI d) b) (Q (.bool false) a) (splitB (ltI g 0) (Q (.bool false) a) (k a)))))
theorem G_job_Good_ok {p b g:Int} {l:Option Addr} {d o:Nat} {m:Mem} {Q:Value→Mem→Prop} (h:G_job_Good p b g l d o m Q):CallV cx n_job_Good [.agg #[.int .i64 p,.slice l d o,.int .i64 b,.int .i64 g]] m Q:=
 CallV.of (fn:=Tryz.f122) (LS:=[1]) (ann:=[none,some ⟨[],[],[(1,0,0)],[0],[],1⟩]) ovFr ovNi (by kernel_rfl) (by kernel_rfl) (Eq.mp (by kernel_rfl) h)
def G_job_New (o:Int) (p:Option Addr) (l n:Nat) (m:Mem) (Q:Value→Mem→Prop):Prop:=
 joinK (fun (j:Bool) (a:Mem)=>splitB j (Q (.tuple #[.agg #[.int .i64 0,.slice none 0 0,.int .i64 0,.int .i64 0],.bool false]) a) (mBind (newO a (row [] t_prog_Step false)) fun k=>∃ i d b c,appendA cx k [t_prog_Prog,t_prog_Prog] [.slice (some ⟨a.nx,0,none⟩) 0 0,.slice p l n]=some (.slice i d b,c)∧Q (.tuple #[.agg #[.int .i64 o,.slice i d b,.int .i64 0,.int .i64 0],.bool true]) c)) fun f=>CallV cx n_prog_Good [.slice p l n] (bump m 1) fun q e=>∃ g,q=(.bool g)∧splitB (!g) (f true e) (f (ltI o 1) e)
theorem G_job_New_ok {o:Int} {p:Option Addr} {l n:Nat} {m:Mem} {Q:Value→Mem→Prop} (h:G_job_New o p l n m Q):CallV cx n_job_New [.int .i64 o,.slice p l n] m Q:=
 CallV.of (fn:=Tryz.f38) (LS:=[4]) (ann:=[none,none,some ⟨[0,1],[(12,.bool)],[(4,0,0)],[0],[],1⟩]) ovFr ovNi (by kernel_rfl) (by kernel_rfl) (Eq.mp (by kernel_rfl) h)
def G_job_Step (q a r:Int) (n:Option Addr) (i p:Nat) (m:Mem) (Q:Value→Mem→Prop):Prop:=
 joinK (fun (o:Bool) (b:Mem)=>splitB o (Q (.tuple #[.agg #[.int .i64 0,.int .i64 0],.bool false]) b) ((0≤a∧a < ((i:Nat):Int))∧(vPtr n fun f e=>∃ d,rd b f (e+Int.toNat a*2)=some (.int .i64 d)∧∃ g,rd b f (e+Int.toNat a*2+1)=some (.int .i64 g)∧Q (.tuple #[.agg #[.int .i64 d,.int .i64 g],.bool true]) b))) fun j=>CallV cx n_job_Good [.agg #[.int .i64 q,.slice n i p,.int .i64 a,.int .i64 r]] (bump m 2) fun l c=>∃ k,l=(.bool k)∧splitB (!k) (j true c) (j (eqI a (lenI i)) c)
theorem G_job_Step_ok {q a r:Int} {n:Option Addr} {i p:Nat} {m:Mem} {Q:Value→Mem→Prop} (h:G_job_Step q a r n i p m Q):CallV cx n_job_Step [.agg #[.int .i64 q,.slice n i p,.int .i64 a,.int .i64 r]] m Q:=
 CallV.of (fn:=Tryz.f89) (LS:=[1,2]) (ann:=[none,none,some ⟨[],[(14,.bool)],[(1,0,0),(2,1,0)],[0,1],[],2⟩]) ovFr ovNi (by kernel_rfl) (by kernel_rfl) (Eq.mp (by kernel_rfl) h)
def G_job_Run (g d a l:Int) (e:Option Addr) (j c:Nat) (m:Mem) (Q:Value→Mem→Prop):Prop:=
 CallV cx n_job_Step [.agg #[.int .i64 g,.slice e j c,.int .i64 d,.int .i64 a]] (bump m 2) fun k i=>∃ n b f,k=(.tuple #[.agg #[.int .i64 n,.int .i64 b],.bool f])∧splitB (!f) (Q (.tuple #[.agg #[.int .i64 g,.slice e j c,.int .i64 d,.int .i64 a],.int .i64 0]) (bump i 1)) (Q (.tuple #[.agg #[.int .i64 g,.slice e j c,.int .i64 d,.int .i64 (addI .i64 a (mnI (mxI l 0) (subI .i64 b a)))],.int .i64 (mnI (mxI l 0) (subI .i64 b a))]) (bump i 1))
theorem G_job_Run_ok {g d a l:Int} {e:Option Addr} {j c:Nat} {m:Mem} {Q:Value→Mem→Prop} (h:G_job_Run g d a l e j c m Q):CallV cx n_job_Run [.agg #[.int .i64 g,.slice e j c,.int .i64 d,.int .i64 a],.int .i64 l] m Q:=
 CallV.of (fn:=Tryz.f87) (LS:=[2,4,6]) (ann:=[]) ovFr ovNi (by kernel_rfl) (by kernel_rfl) (Eq.mp (by kernel_rfl) h)
def G_job_Next (d i j:Int) (k:Option Addr) (f a:Nat) (m:Mem) (Q:Value→Mem→Prop):Prop:=
 CallV cx n_job_Step [.agg #[.int .i64 d,.slice k f a,.int .i64 i,.int .i64 j]] (bump m 2) fun p e=>∃ n c l,p=(.tuple #[.agg #[.int .i64 n,.int .i64 c],.bool l])∧(joinK (fun (o:Bool) (b:Mem)=>splitB o (Q (.tuple #[.agg #[.int .i64 d,.slice k f a,.int .i64 i,.int .i64 j],.bool false]) b) (Q (.tuple #[.agg #[.int .i64 d,.slice k f a,.int .i64 (addI .i64 i 1),.int .i64 0],.bool true]) b)) fun g=>splitB (!l) (g true (bump e 1)) (g (neI j c) (bump e 1)))
theorem G_job_Next_ok {d i j:Int} {k:Option Addr} {f a:Nat} {m:Mem} {Q:Value→Mem→Prop} (h:G_job_Next d i j k f a m Q):CallV cx n_job_Next [.agg #[.int .i64 d,.slice k f a,.int .i64 i,.int .i64 j]] m Q:=
 CallV.of (fn:=Tryz.f91) (LS:=[1,2,4]) (ann:=[none,none,none,some ⟨[],[(19,.bool)],[(1,0,0),(2,1,0)],[0,1],[],4⟩]) ovFr ovNi (by kernel_rfl) (by kernel_rfl) (Eq.mp (by kernel_rfl) h)
def G_cmp_isNaN_int (a:Int) (m:Mem) (Q:Value→Mem→Prop):Prop:=
 Q (.bool (neI a a)) m
theorem G_cmp_isNaN_int_ok {a:Int} {m:Mem} {Q:Value→Mem→Prop} (h:G_cmp_isNaN_int a m Q):CallV cx n_cmp_isNaN_int [.int .i64 a] m Q:=
 CallV.of (fn:=Tryz.f116) (LS:=[]) (ann:=[]) ovFr ovNi (by kernel_rfl) (by kernel_rfl) (Eq.mp (by kernel_rfl) h)
def G_cmp_Compare_int (e c:Int) (m:Mem) (Q:Value→Mem→Prop):Prop:=
 CallV cx n_cmp_isNaN_int [.int .i64 e] m fun i g=>∃ d,i=(.bool d)∧(CallV cx n_cmp_isNaN_int [.int .i64 c] g fun f a=>∃ b,f=(.bool b)∧splitB d (splitB b (Q (.int .i64 0) a) (Q (.int .i64 (-1:Int)) a)) (splitB b (Q (.int .i64 1) a) (splitB (ltI e c) (Q (.int .i64 (-1:Int)) a) (splitB (ltI c e) (Q (.int .i64 1) a) (Q (.int .i64 0) a)))))
theorem G_cmp_Compare_int_ok {e c:Int} {m:Mem} {Q:Value→Mem→Prop} (h:G_cmp_Compare_int e c m Q):CallV cx n_cmp_Compare_int [.int .i64 e,.int .i64 c] m Q:=
 CallV.of (fn:=Tryz.f69) (LS:=[]) (ann:=[]) ovFr ovNi (by kernel_rfl) (by kernel_rfl) (Eq.mp (by kernel_rfl) h)
end
end Go.Proofs.YtiehbnmpaeedpaaGreat.vc
namespace Go.AX.pm
set_option linter.unusedSimpArgs false
set_option linter.unusedVariables false
set_option linter.unusedSectionVars false
open Go.AX
noncomputable section
abbrev horizon:Int:=4611686018427387904
def tGood (t:Int):Bool:=leI 0 t && leI t horizon
def tgood (t:Int):Int×Bool:=bif tGood t then (t,true) else (0,false)
def tIn (n low high:Int):Bool:=leI low n && leI n high
def tAdd (a b:Int):Int×Bool:=bif tGood a && tGood b then tgood (addI .i64 a b) else (0,false)
def tShare (x q p:Int):Int×Bool:=bif tIn x 0 2147483648 && (tIn p 1 2147483648 && tIn q 0 p) then (quoI .i64 (mulI .i64 x q) p,true) else (0,false)
def tUp (t d p:Int):Int×Bool:=bif tGood t && (tGood d && tIn p 1 2147483648) then (bif ltI t d then (d,true) else tgood (addI .i64 d (mulI .i64 (addI .i64 (quoI .i64 (subI .i64 t d) p) 1) p))) else (0,false)
structure Srv where
 q:Int
 p:Int
 bud:Int
 due:Int
 mode:Int
def pair (q p:Int):Bool:=leI 1 p && (leI p 2147483648 && (leI 1 q && leI q p))
def cNew (q p:Int):Srv×Int:=bif pair q p then (⟨q,p,0,0,0⟩,0) else (⟨0,0,0,0,0⟩,1)
def cGood (s:Srv):Bool:=pair s.q s.p && (leI 0 s.bud && (leI s.bud s.q && (tGood s.due && (leI 0 s.mode && (leI s.mode 2 && (neI s.mode 1 || ltI 0 s.bud))))))
def cReady (s:Srv):Srv:=bif eqI s.bud 0 then { s with mode:=2 } else { s with mode:=1 }
def cWake (s:Srv) (now:Int):Srv×Int:=
 bif !cGood s || !tGood now then (s,1) else
 bif neI s.mode 0 then (s,5) else
 bif leI s.due now then
  (bif (tAdd now s.p).2 then (cReady { s with bud:=s.q,due:=(tAdd now s.p).1 },0) else (s,6))
 else
  (bif ltI (mulI .i64 (mnI (subI .i64 s.due now) s.p) s.q) (mulI .i64 s.bud s.p) then (cReady { s with bud:=(tShare (mnI (subI .i64 s.due now) s.p) s.q s.p).1 },0) else (cReady s,0))
def cUse (s:Srv) (n:Int):Srv×Int:=
 bif !cGood s || (ltI n 1 || ltI s.bud n) then (s,1) else
 bif neI s.mode 1 then (s,4) else (cReady { s with bud:=subI .i64 s.bud n },0)
def cIdle (s:Srv):Srv×Int:=bif !cGood s then (s,1) else bif eqI s.mode 0 then (s,4) else ({ s with mode:=0 },0)
def cWait (s:Srv):Srv×Int:=bif !cGood s then (s,1) else bif neI s.mode 1 then (s,4) else ({ s with mode:=2 },0)
def cTurn (s:Srv) (now:Int):Srv×Bool:=
 bif !cGood s || (eqI s.mode 0 || ltI now s.due) then (s,false) else
 bif (tUp now s.due s.p).2 then (cReady { s with bud:=s.q,due:=(tUp now s.due s.p).1 },true) else (s,false)
def gWorst (m most:Int):Int×Int×Bool:=bif ltI m 1 || (ltI 64 m || (ltI most 1 || ltI 1048576 most)) then (0,0,false) else (mulI .i64 (subI .i64 m 1) most,mulI .i64 m most,true)
def gEnough (m most bud left:Int):Bool:=(gWorst m most).2.2 && (leI (gWorst m most).2.1 bud && leI (gWorst m most).2.1 left)
abbrev Step:=Int×Int
def pOdd (s:Step):Bool:=ltI s.1 0 || (ltI 8 s.1 || (ltI s.2 1 || ltI 2147483648 s.2))
def pGood (p:List Step):Bool:=leI 1 (lenI p.length) && (leI (lenI p.length) 8 && !p.any pOdd)
def pFits (p:List Step) (n:Nat):Bool:=pGood p && !p.any fun s=>ltI (lenI n) s.1
structure Job where
 num:Int
 prog:List Step
 at_:Int
 done:Int
def Job.cur (j:Job):Step:=j.prog.getD j.at_.toNat (0,0)
def jGood (j:Job):Bool:=
 !ltI j.num 1 && (pGood j.prog && (!ltI j.at_ 0 && (!ltI (lenI j.prog.length) j.at_ && (!ltI j.done 0 && (bif eqI j.at_ (lenI j.prog.length) then eqI j.done 0 else leI j.done j.cur.2)))))
def jNew (num:Int) (p:List Step):Job×Bool:=bif !pGood p || ltI num 1 then (⟨0,[],0,0⟩,false) else (⟨num,p,0,0⟩,true)
def jStep (j:Job):Step×Bool:=bif !jGood j || eqI j.at_ (lenI j.prog.length) then ((0,0),false) else (j.cur,true)
def jRun (j:Job) (n:Int):Job×Int:=bif !(jStep j).2 then (j,0) else ({ j with done:=addI .i64 j.done (mnI (mxI n 0) (subI .i64 (jStep j).1.2 j.done)) },mnI (mxI n 0) (subI .i64 (jStep j).1.2 j.done))
def jNext (j:Job):Job×Bool:=bif !(jStep j).2 || neI j.done (jStep j).1.2 then (j,false) else ({ j with at_:=addI .i64 j.at_ 1,done:=0 },true)
structure Serv where
 id:Int
 s:Srv
 jobs:List Job
 sec:Int
 held:Int
 num:Int
 ran:Int
structure Lock where
 most:Int
 holder:Int
 queue:List Int
 dead:Bool
structure Back where
 id:Int
 ran:Int
structure St where
 m:Int
 now:Int
 servs:List Serv
 sems:List Lock
 backs:List Back
structure Ev where
 at_:Int
 kind:Int
 who:Int
 n:Int
def mOdd (n:Int):Bool:=ltI n 1 || ltI 1048576 n
def new (m:Int) (most:List Int):St×Int:=
 bif ltI m 1 || (ltI 64 m || (ltI 8 (lenI most.length) || most.any mOdd)) then (⟨0,0,[],[],[]⟩,1) else (⟨m,0,[],most.map fun n=>⟨n,0,[],false⟩,[]⟩,0)
def at_ (l:List Serv) (id:Int):Nat:=(l.takeWhile fun v=>ltI v.id id).length
def has (l:List Serv) (id:Int):Bool:=match l[at_ l id]? with
 | some v=>eqI v.id id
 | none=>false
def back (l:List Back) (id:Int):Option Nat:=l.findIdx? fun b=>eqI b.id id
def Serv.idle (v:Serv):Bool:=eqI v.s.mode 0
def add (s:St) (id q p:Int):St×Int:=
 bif ltI id 1 || ltI 255 id then (s,1) else
 bif has s.servs id then (s,5) else
 bif leI 32 (lenI s.servs.length) then (s,3) else
 bif neI (cNew q p).2 0 then (s,(cNew q p).2) else
 ({ s with servs:=s.servs.take (at_ s.servs id) ++ ⟨id,(cNew q p).1,[],0,0,0,0⟩ :: s.servs.drop (at_ s.servs id) },0)
def drop (s:St) (id:Int):St×Int:=
 bif !has s.servs id then (s,2) else
 match s.servs[at_ s.servs id]? with
 | none=>(s,2)
 | some v=>bif !v.idle then (s,5) else ({ s with servs:=s.servs.eraseIdx (at_ s.servs id) },0)
def event (s:St) (kind who n:Int):Ev:=⟨s.now,kind,who,n⟩
def release (s:St) (id:Int) (p:List Step):St×List Ev×Int:=
 bif !has s.servs id then (s,[],2) else
 bif !pFits p s.sems.length then (s,[],1) else
 match s.servs[at_ s.servs id]? with
 | none=>(s,[],2)
 | some v=>
  bif leI 8 (lenI v.jobs.length) then (s,[],3) else
  let v1:={ v with num:=addI .i64 v.num 1,jobs:=v.jobs ++ [(jNew (addI .i64 v.num 1) p).1] }
  bif !v.idle then ({ s with servs:=s.servs.set (at_ s.servs id) v1 },[event s 1 id v1.num],0) else
  bif neI (cWake v.s s.now).2 0 then (s,[],(cWake v.s s.now).2) else
  ({ s with servs:=s.servs.set (at_ s.servs id) { v1 with s:=(cWake v.s s.now).1 } },[event s 1 id v1.num,event s 9 id 0],0)
def ground (s:St) (id:Int) (on:Bool):St×Int:=
 bif ltI id 1 || ltI 255 id then (s,1) else
 match on,back s.backs id with
 | true,some _=>(s,5)
 | true,none=>bif leI 16 (lenI s.backs.length) then (s,3) else ({ s with backs:=s.backs ++ [⟨id,0⟩] },0)
 | false,none=>(s,2)
 | false,some i=>({ s with backs:=s.backs.eraseIdx i },0)
def Serv.ent (v:Serv):pl.E:=(v.id,v.s.due,neI v.sec 0)
def ready (l:List Serv):List Serv:=l.filter fun v=>eqI v.s.mode 1
def runners (s:St):List Int:=pl.pick s.m ((ready s.servs).map Serv.ent)
def backers (s:St):List Int:=((s.backs.take (mnI (subI .i64 s.m (lenI (runners s).length)) (lenI s.backs.length)).toNat)).map (·.id)
def asks (s:St):List (Nat×Int):=(runners s).filterMap fun id=>
 match s.servs[at_ s.servs id]? with
 | none=>none
 | some v=>match v.jobs with
  | []=>none
  | j :: _=>bif (jStep j).2 && (ltI 0 (jStep j).1.1 && eqI v.sec 0) then some (at_ s.servs id,(jStep j).1.1) else none
def refuseIn (s:St):List (Nat×Int)→Option (St×Ev)
 | []=>none
 | (i,q) :: r=>match s.servs[i]?,s.sems[(q - 1).toNat]? with
  | some v,some l=>bif gEnough s.m l.most v.s.bud (subI .i64 v.s.due s.now) then refuseIn s r else
   some ({ s with servs:=s.servs.set i { v with s:=(cWait v.s).1 } },event s 8 v.id q)
  | _,_=>none
def refuse (s:St):Option (St×Ev):=refuseIn s (asks s)
def turn1 (now:Int) (v:Serv):Serv×Bool:=bif v.idle || neI v.sec 0 then (v,false) else ({ v with s:=(cTurn v.s now).1 },(cTurn v.s now).2)
def turnS (s:St):St:={ s with servs:=s.servs.map fun v=>(turn1 s.now v).1 }
def turnE (s:St):List Ev:=s.servs.filterMap fun v=>bif (turn1 s.now v).2 then some (event s 5 v.id 0) else none
def refuses:Nat→St→St×List Ev
 | 0,s=>(s,[])
 | n+1,s=>match refuse s with
  | none=>(s,[])
  | some (s',e)=>let r:=refuses n s'; (r.1,e :: r.2)
def grant1 (s:St) (i:Nat) (q:Int):St×List Ev:=match s.servs[i]?,s.sems[(q - 1).toNat]? with
 | some v,some l=>
  bif neI l.holder 0 then ({ s with servs:=s.servs.set i { v with sec:=1 },sems:=s.sems.set (q - 1).toNat { l with queue:=l.queue ++ [v.id] } },[]) else
  ({ s with servs:=s.servs.set i { v with sec:=2,held:=0 },sems:=s.sems.set (q - 1).toNat { l with holder:=v.id,dead:=false } },(bif l.dead then [event s 7 v.id 0] else []) ++ [event s 6 v.id q])
 | _,_=>(s,[])
def grants:St→List (Nat×Int)→St×List Ev
 | s,[]=>(s,[])
 | s,(i,q) :: r=>let a:=grant1 s i q; let b:=grants a.1 r; (b.1,a.2 ++ b.2)
def settle (s:St):St×List Ev:=
 let a:=refuses (s.servs.length+1) (turnS s)
 let b:=grants a.1 (asks a.1)
 (b.1,turnE s ++ a.2 ++ b.2)
def free (s:St) (q:Int) (thrown:Bool):St×List Ev:=match s.sems[(q - 1).toNat]? with
 | none=>(s,[])
 | some l=>match l.queue with
  | []=>({ s with sems:=s.sems.set (q - 1).toNat { l with holder:=0,dead:=thrown } },[])
  | x :: r=>match s.servs[at_ s.servs x]? with
   | none=>(s,[])
   | some v=>({ s with sems:=s.sems.set (q - 1).toNat { l with holder:=x,queue:=r },servs:=s.servs.set (at_ s.servs x) { v with sec:=2,held:=0 } },(bif thrown then [event s 7 x 0] else []) ++ [event s 6 x q])
def run1 (v:Serv):Serv:=
 let v:={ v with s:=(cUse v.s 1).1,ran:=addI .i64 v.ran 1 }
 bif eqI v.sec 1 then v else
 match v.jobs with
 | []=>v
 | j :: r=>
  let v:={ v with jobs:=(jRun j 1).1 :: r }
  bif eqI v.sec 2 then { v with held:=addI .i64 v.held 1 } else v
def end1 (s:St) (i:Nat):St×List Ev:=match s.servs[i]? with
 | none=>(s,[])
 | some v=>match v.jobs with
  | []=>(s,[])
  | j :: r=>
   let x:=(jStep j).1
   bif eqI j.done x.2 then
    let a:=bif eqI v.sec 2 then free { s with servs:=s.servs.set i { v with sec:=0 } } x.1 false else (s,[])
    match a.1.servs[i]? with
    | none=>a
    | some w=>bif eqI (jNext j).1.at_ (lenI j.prog.length) then ({ a.1 with servs:=a.1.servs.set i { w with jobs:=r } },a.2 ++ [event s 2 w.id j.num])
     else ({ a.1 with servs:=a.1.servs.set i { w with jobs:=(jNext j).1 :: r } },a.2)
   else bif eqI v.sec 2 && (match s.sems[(x.1 - 1).toNat]? with | some l=>eqI v.held l.most | none=>false) then
    let a:=free { s with servs:=s.servs.set i { v with jobs:=r,sec:=0 } } x.1 true
    (a.1,event s 3 v.id j.num :: a.2)
   else (s,[])
def end2 (s:St) (i:Nat):St×List Ev:=match s.servs[i]? with
 | none=>(s,[])
 | some v=>match v.jobs with
  | []=>({ s with servs:=s.servs.set i { v with s:=(cIdle v.s).1 } },[event s 10 v.id 0])
  | _ :: _=>(s,bif eqI v.s.mode 2 then [event s 4 v.id 0] else [])
def end_ (s:St) (i:Nat):St×List Ev:=let a:=end1 s i; let b:=end2 a.1 i; (b.1,a.2 ++ b.2)
def ends:St→List Nat→St×List Ev
 | s,[]=>(s,[])
 | s,i :: r=>let a:=end_ s i; let b:=ends a.1 r; (b.1,a.2 ++ b.2)
def runs (s:St):List Nat→St
 | []=>s
 | i :: r=>runs (match s.servs[i]? with | some v=>{ s with servs:=s.servs.set i (run1 v) } | none=>s) r
def tick (s:St):St×List Ev×Int:=
 bif leI horizon s.now then (s,[],6) else
 let a:=settle s
 let pl:=(runners a.1).map (at_ a.1.servs)
 let n:=(backers a.1).length
 let t:=runs a.1 pl
 let u:St:={ t with backs:=t.backs.drop n ++ (t.backs.take n).map fun b=>{ b with ran:=addI .i64 b.ran 1 },now:=addI .i64 t.now 1 }
 let e:=ends u pl
 (e.1,a.2 ++ e.2,0)
end
end Go.AX.pm
