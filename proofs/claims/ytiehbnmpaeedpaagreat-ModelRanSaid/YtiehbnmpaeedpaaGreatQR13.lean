import Derived.Test.YtiehbnmpaeedpaaGreatQR12
import Derived.Test.YtiehbnmpaeedpaaGreatQR09
import Derived.Test.YtiehbnmpaeedpaaGreatQR04
namespace Go.Proofs.YtiehbnmpaeedpaaGreat.vc
open Go Go.AX
abbrev n_law_ModelBest:FuncId:=4
abbrev n_law_ModelJobs:FuncId:=5
abbrev n_law_ModelRan:FuncId:=7
abbrev n_law_ModelApart:FuncId:=9
abbrev n_law_ModelSettles:FuncId:=10
abbrev n_law_awake:FuncId:=11
abbrev n_model_New:FuncId:=12
abbrev n_model_Add:FuncId:=13
abbrev n_model_Release:FuncId:=14
abbrev n_model_Tick:FuncId:=15
abbrev n_model_Find:FuncId:=16
abbrev n_model_Settle:FuncId:=17
abbrev n_model_Runs:FuncId:=18
abbrev n_model_Drop:FuncId:=19
abbrev n_law_act:FuncId:=21
abbrev n_model_Same:FuncId:=29
abbrev n_model_New_1:FuncId:=30
abbrev n_slices_ContainsFunc_sl_int64:FuncId:=31
abbrev n_model_State_at:FuncId:=32
abbrev n_cbs_New:FuncId:=33
abbrev n_model_State_Clone:FuncId:=34
abbrev n_slices_Insert_sl_model_Serv:FuncId:=35
abbrev n_prog_Fits:FuncId:=36
abbrev n_model_State_mosts:FuncId:=37
abbrev n_job_New:FuncId:=38
abbrev n_model_State_event:FuncId:=39
abbrev n_model_Serv_idle:FuncId:=40
abbrev n_cbs_Wake:FuncId:=41
abbrev n_p_model_Serv_run:FuncId:=42
abbrev n_slices_Concat_sl_model_Back:FuncId:=43
abbrev n_model_State_end:FuncId:=44
abbrev n_cbs_Turn:FuncId:=45
abbrev n_model_State_refuse:FuncId:=46
abbrev n_model_State_asks:FuncId:=47
abbrev n_edf_Pick:FuncId:=48
abbrev n_slices_Delete_sl_model_Serv:FuncId:=49
abbrev n_model_Ground:FuncId:=50
abbrev n_slices_EqualFunc_sl_model_Serv:FuncId:=61
abbrev n_model_sameServ:FuncId:=62
abbrev n_slices_EqualFunc_sl_model_Lock:FuncId:=63
abbrev n_model_sameLock:FuncId:=64
abbrev n_slices_Equal_sl_model_Back:FuncId:=65
abbrev n_slices_IndexFunc_sl_int64:FuncId:=66
abbrev n_slices_BinarySearchFunc_sl_model_Serv:FuncId:=67
abbrev n_model_State_at_1:FuncId:=68
abbrev n_cmp_Compare_int:FuncId:=69
abbrev n_cbs_pair:FuncId:=70
abbrev n_slices_Clone_sl_model_Serv:FuncId:=71
abbrev n_slices_Clone_sl_model_Lock:FuncId:=72
abbrev n_slices_Clone_sl_model_Back:FuncId:=73
abbrev n_slices_Clone_sl_job_Job:FuncId:=74
abbrev n_slices_Clone_sl_int:FuncId:=75
abbrev n_slices_overlaps_model_Serv:FuncId:=76
abbrev n_slices_rotateRight_model_Serv:FuncId:=77
abbrev n_prog_Fits_1:FuncId:=78
abbrev n_prog_Good:FuncId:=79
abbrev n_slices_ContainsFunc_prog_Prog:FuncId:=80
abbrev n_cbs_Good:FuncId:=81
abbrev n_tick_Good:FuncId:=82
abbrev n_tick_Add:FuncId:=83
abbrev n_cbs_ready:FuncId:=84
abbrev n_tick_Share:FuncId:=85
abbrev n_cbs_Use:FuncId:=86
abbrev n_job_Run:FuncId:=87
abbrev n_slices_Grow_sl_model_Back:FuncId:=88
abbrev n_job_Step:FuncId:=89
abbrev n_model_State_free:FuncId:=90
abbrev n_job_Next:FuncId:=91
abbrev n_cbs_Idle:FuncId:=92
abbrev n_tick_Up:FuncId:=93
abbrev n_gate_Enough:FuncId:=94
abbrev n_cbs_Wait:FuncId:=95
abbrev n_edf_split:FuncId:=96
abbrev n_slices_Sort_sl_int:FuncId:=97
abbrev n_model_State_back:FuncId:=98
abbrev n_slices_Delete_sl_model_Back:FuncId:=99
abbrev n_slices_EqualFunc_sl_job_Job:FuncId:=113
abbrev n_model_sameJob:FuncId:=114
abbrev n_slices_Equal_sl_int:FuncId:=115
abbrev n_cmp_isNaN_int:FuncId:=116
abbrev n_prog_Good_1:FuncId:=118
abbrev n_slices_IndexFunc_prog_Prog:FuncId:=119
abbrev n_tick_good:FuncId:=120
abbrev n_tick_in:FuncId:=121
abbrev n_job_Good:FuncId:=122
abbrev n_gate_Worst:FuncId:=123
abbrev n_edf_Good:FuncId:=124
abbrev n_edf_order:FuncId:=125
abbrev n_slices_IndexFunc_sl_model_Back:FuncId:=128
abbrev n_model_State_back_1:FuncId:=129
abbrev n_slices_Equal_prog_Prog:FuncId:=144
abbrev n_slices_Clone_sl_edf_Ent:FuncId:=146
abbrev n_slices_SortFunc_sl_edf_Ent:FuncId:=147
abbrev n_edf_order_1:FuncId:=148
abbrev n_edf_compare:FuncId:=149
abbrev n_cmp_Or_int:FuncId:=167
abbrev n_cmp_Compare_int64:FuncId:=168
abbrev n_cmp_isNaN_int64:FuncId:=182
abbrev t_int64:TypeId:=2
abbrev t_int:TypeId:=3
abbrev t_bool:TypeId:=4
abbrev t_sl_int64:TypeId:=22
abbrev t_sl_model_Serv:TypeId:=25
abbrev t_sl_model_Lock:TypeId:=26
abbrev t_sl_model_Back:TypeId:=27
abbrev t_sl_prog_Step:TypeId:=34
abbrev t_law_Act:TypeId:=36
abbrev t_sl_model_Event:TypeId:=38
abbrev t_prog_Prog:TypeId:=41
abbrev t_cbs_Server:TypeId:=44
abbrev t_sl_job_Job:TypeId:=45
abbrev t_model_Serv:TypeId:=47
abbrev t_sl_int:TypeId:=50
abbrev t_model_Lock:TypeId:=52
abbrev t_prog_Step:TypeId:=59
abbrev t_model_Event:TypeId:=61
abbrev t_model_Back:TypeId:=69
abbrev t_job_Job:TypeId:=98
abbrev t_sl_edf_Ent:TypeId:=111
abbrev t_edf_Ent:TypeId:=113
abbrev t_map_int_bool:TypeId:=228
end Go.Proofs.YtiehbnmpaeedpaaGreat.vc
namespace Go.AX
open Go
structure Keep (m m':Mem):Prop where
 wf:Wf m'
 nx:m.nx≤m'.nx
 fl:m'.fl=m.fl
 get:∀ b,b < m.nx→m'.hp.get b=m.hp.get b
theorem Keep.refl {m:Mem} (h:Wf m):Keep m m:=⟨h,Nat.le_refl _,rfl,fun _ _=>rfl⟩
theorem Keep.trans {m m1 m2:Mem} (h:Keep m m1) (k:Keep m1 m2):Keep m m2:=
 ⟨k.wf,Nat.le_trans h.nx k.nx,k.fl.trans h.fl,fun b hb=>(k.get b (Nat.lt_of_lt_of_le hb h.nx)).trans (h.get b hb)⟩
theorem Keep.newO {m m1:Mem} {o:AObj} (h:Keep m m1):Keep m (newO m1 o):=
 ⟨h.wf.newO,by simp; have:=h.nx; omega,h.fl,fun b hb=>by rw [newO_get,if_neg (by have:=h.nx; omega)]; exact h.get b hb⟩
theorem Keep.bump {m m1:Mem} {n:Nat} (h:Keep m m1):Keep m (AX.bump m1 n):=
 ⟨h.wf.bump,by simp; have:=h.nx; omega,h.fl,fun b hb=>h.get b hb⟩
theorem Keep.wr {m m1:Mem} {b o:Nat} {l:List Value} (h:Keep m m1) (hb:m.nx≤b):Keep m (AX.wr m1 b o l):=
 ⟨h.wf.wr,by simpa using h.nx,by simpa using h.fl,fun b' hb'=>by rw [wr_get (by omega)]; exact h.get b' hb'⟩
theorem Keep.addO {m m1:Mem} {b:Nat} {o:AObj} (h:Keep m m1) (hb:m.nx≤b) (hb2:b < m1.nx):Keep m (AX.addO m1 b o):=
 ⟨h.wf.addO hb2,by simpa using h.nx,by simpa using h.fl,fun b' hb'=>by rw [addO_get,if_neg (by omega)]; exact h.get b' hb'⟩
theorem Keep.row {m m':Mem} (h:Keep m m') (hw:Wf m) {b:Nat} {l:List Value} {e:TypeId} {x:Bool} (hr:Row m b l e x):Row m' b l e x:=hr.congr (h.get b (hw.row hr))
theorem Keep.grow {m m':Mem} (h:Keep m m') (hw:Wf m) {a:Option Addr} {n c s:Nat} {e:TypeId} {l:List Value} (hg:Grow m a n c s e l):Grow m' a n c s e l:=by
 refine ⟨hg.1,?_⟩
 rcases hg.2 with h1 | ⟨b,h1,h2,h3,h4⟩
 ·exact .inl h1
 ·exact .inr ⟨b,h1,h2,by rw [h.fl]; exact h3,h.row hw h4⟩
def blk:Option Addr→List Nat
 | none=>[]
 | some a=>[a.block]
theorem Grow.fr {m m':Mem} {S:List Nat} (h:Fr m m' S) (hw:Wf m) {a:Option Addr} {n c s:Nat} {e:TypeId} {l:List Value} (hg:Grow m a n c s e l) (hn:∀ b∈blk a,b∉S):Grow m' a n c s e l:=by
 refine ⟨hg.1,?_⟩
 rcases hg.2 with h1 | ⟨b,h1,h2,h3,h4⟩
 ·exact .inl h1
 ·exact .inr ⟨b,h1,h2,by rw [h.fl]; exact h3,h.row h4 (hw.row h4) (hn b (by rw [h1]; simp [blk]))⟩
theorem Grow.blk_lt {m:Mem} (hw:Wf m) {a:Option Addr} {n c s:Nat} {e:TypeId} {l:List Value} (hg:Grow m a n c s e l):∀ b∈blk a,b < m.nx:=by
 intro b hb
 rcases hg.2 with ⟨h1,_⟩ | ⟨b',h1,_,_,h2⟩
 ·rw [h1] at hb; cases hb
 ·rw [h1] at hb; simp [blk] at hb; subst hb; exact hw.row h2
theorem push_fr {cx:Cx} {m2 m3:Mem} {a:Option Addr} {n c s:Nat} {e t:TypeId} {i:TypeInfo} {z:Value} {vs l:List Value} (hw2:Wf m2) (hG:Grow m2 a n c s e l)
  (hm3:newO m2 (row vs e false)=m3) (hvs:vs.length=s) (hs:0 < s) (ht:cx.un.get t=some (.slice e)) (hi:cx.ty.get e=some i) (his:i.size=s) (hz:zeroT cx e=some z) (hzl:(cellsL z).length=s) (ho:vs.all one1=true) (hb:i.bytes≤1000) (hn:n≤1000000) :
  ∃ m4,appendA cx m3 [t,t] [.slice a n c,.slice (some ⟨m2.nx,0,none⟩) 1 1]=some (.slice (some ⟨m2.nx+1,0,none⟩) (n+1) (n+1),m4)∧Wf m4∧Fr m2 m4 (blk a)∧m4.nx=m2.nx+2∧Grow m4 (some ⟨m2.nx+1,0,none⟩) (n+1) (n+1) s e (l ++ vs):=by
 have hw3:Wf m3:=hm3 ▸ hw2.newO
 have nx3:m3.nx=m2.nx+1:=by rw [← hm3]; rfl
 have fl3:m3.fl=m2.fl:=by rw [← hm3]; rfl
 have f3:Fr m2 m3 []:=hm3 ▸ (Fr.refl m2 []).newO
 have hT:Row m3 m2.nx vs e false:=hm3 ▸ Row.newO
 have hG3:Grow m3 a n c s e l:=hG.fr f3 hw2 (fun _ _ h=>by cases h)
 have hbl:=hG.blk_lt hw2
 have hbb:(2*(n+1)+192)*i.bytes≤140737488355328:=by
  have h1:(2*(n+1)+192)≤2000194:=by omega
  have h2:=Nat.mul_le_mul h1 hb
  omega
 have hrow:rowAtL m3 ⟨m2.nx,0,none⟩ (1*s)=some vs:=by
  have:=hT.rowAt (o:=0) (k:=1*s) (by omega)
  rw [this]; congr 1; simp
  rw [List.take_of_length_le (by omega)]
 obtain ⟨m4,h4,nx4,fl4,hR4,g4⟩:=append_grow hG3 ht ht rfl hi his hz hzl hs (x:=.slice (some ⟨m2.nx,0,none⟩) 1 1) (k:=1) rfl (by simp only [firstL]; exact hrow) (by omega) ho (by omega) hbb (by omega)
 rw [nx3] at h4 hR4
 have hfl:=hw2.1
 have g4':∀ b',b'≠m3.nx→b'∉blk a→m4.hp.get b'=m3.hp.get b':=fun b' h1 h2=>g4 b' h1 (fun b e e'=>h2 (by rw [e,e']; simp [blk]))
 refine ⟨m4,h4,⟨by omega,fun b hb=>?_⟩,⟨by omega,by omega,fun b hb hn'=>?_⟩,by omega,⟨?_,.inr ⟨_,rfl,rfl,by omega,hR4⟩⟩⟩
 ·rw [nx4] at hb
  rw [g4' b (by omega) (fun h=>by have:=hbl b h; omega)]
  exact hw3.2 b (by omega)
 ·rw [g4' b (by omega) hn',f3.get b hb (by simp)]
 ·have:=hG.1
  simp [this,hvs,Nat.succ_mul]
noncomputable def pushT (cx:Cx) (t e s:Nat):Bool:=match cx.un.get t,cx.ty.get e,zeroT cx e with
 | some (.slice e'),some i,some z=>Nat.beq e' e && (Nat.beq i.size s && (Nat.blt 0 s && (Nat.beq (cellsL z).length s && Nat.ble i.bytes 1000)))
 | _,_,_=>false
theorem pushT_of {cx:Cx} {t e s:Nat} (h:pushT cx t e s=true):∃ i z,cx.un.get t=some (.slice e)∧cx.ty.get e=some i∧i.size=s∧zeroT cx e=some z∧(cellsL z).length=s∧0 < s∧i.bytes≤1000:=by
 unfold pushT at h
 split at h
 ·next e' i z h1 h2 h3=>
  simp only [Bool.and_eq_true] at h
  obtain ⟨a,b,c,d,f⟩:=h
  have ea:e'=e:=Nat.eq_of_beq_eq_true a
  exact ⟨i,z,ea ▸ h1,h2,Nat.eq_of_beq_eq_true b,h3,Nat.eq_of_beq_eq_true d,Nat.le_of_ble_eq_true c,Nat.le_of_ble_eq_true f⟩
 ·cases h
theorem push {cx:Cx} {m2:Mem} {a:Option Addr} {n c s e t:Nat} {vs l:List Value} (hp:pushT cx t e s=true) (hw2:Wf m2) (hG:Grow m2 a n c s e l) (hvs:vs.length=s) (ho:vs.all one1=true) (hn:n≤1000000) :
  ∃ m4,appendA cx (newO m2 (row vs e false)) [t,t] [.slice a n c,.slice (some ⟨m2.nx,0,none⟩) 1 1]=some (.slice (some ⟨m2.nx+1,0,none⟩) (n+1) (n+1),m4)∧Wf m4∧Fr m2 m4 (blk a)∧m4.nx=m2.nx+2∧Grow m4 (some ⟨m2.nx+1,0,none⟩) (n+1) (n+1) s e (l ++ vs):=by
 obtain ⟨i,z,h1,h2,h3,h4,h5,h6,h7⟩:=pushT_of hp
 exact push_fr hw2 hG rfl hvs h6 h1 h2 h3 h4 h5 ho h7 hn
theorem Keep.of_fr {m m1 m2:Mem} {S:List Nat} (k:Keep m m1) (hw:Wf m2) (f:Fr m1 m2 S) (hS:∀ b∈S,m.nx≤b):Keep m m2:=
 ⟨hw,Nat.le_trans k.nx f.nx,f.fl.trans k.fl,fun b hb=>(f.get b (Nat.lt_of_lt_of_le hb k.nx) (fun h=>by have:=hS b h; omega)).trans (k.get b hb)⟩
theorem Keep.fr {m m':Mem} (k:Keep m m') (S:List Nat):Fr m m' S:=⟨k.nx,k.fl,fun b hb _=>k.get b hb⟩
end Go.AX
namespace Go.AX
variable {P:Program} {cx:Cx} {φ : Phi} {m:Mem} {w:World}
def TR (φ : Phi) (st:St) (a:Act):Prop:=
 a.tmps.size=st.sz∧a.defers=[]∧∀ (t:Nat) (v:Value),st.tm.get t=some v→VR φ v (a.tmps.getD t undef)
theorem eval_ok (hcx:CxOk P cx) (hg:∀ g,g≤P.globals.size→∃ l,φ g=some l∧l.rb=g∧l.ro=0) {st:St} {a:Act} (ht:TR φ st a) {x:Operand} {v:Value} (h:evalA cx st x=some v):VR φ v (a.eval x):=by
 cases x with
 | tmp t=>exact ht.2.2 t v h
 | const c=>
  simp only [evalA] at h
  split at h
  ·rename_i hp; cases h; exact VR.plain φ hp
  ·cases h
 | global g=>
  simp only [evalA] at h
  split at h
  ·rename_i hp
   cases h
   have hlt:g < P.globals.size:=by rw [← hcx.gl]; exact Nat.le_of_ble_eq_true hp
   obtain ⟨l,h1,h2,h3⟩:=hg g (Nat.le_of_lt hlt)
   have:=VR.ptr (φ:=φ) g 0 l h1
   rw [h2,h3] at this
   exact this
  ·cases h
 | func f=>
  simp only [evalA] at h; cases h
  exact .func _ _ _ _ _ rfl (fun i v v' h1=>by simp at h1) rfl (fun i v v' h1=>by simp at h1)
theorem evalL_ok (hcx:CxOk P cx) (hg:∀ g,g≤P.globals.size→∃ l,φ g=some l∧l.rb=g∧l.ro=0) {st:St} {a:Act} (ht:TR φ st a):∀ {xs:List Operand} {l:List Value},evalL cx st xs=some l→LR φ l (xs.map a.eval)
 | [],l,h=>by simp only [evalL] at h; cases h; exact LR.nil φ
 | x :: r,l,h=>by
  simp only [evalL] at h
  split at h
  ·rename_i v hv
   split at h
   ·rename_i l0 hl
    cases h
    exact (evalL_ok hcx hg ht hl).cons (eval_ok hcx hg ht hv)
   ·cases h
  ·cases h
theorem run_isAgg {t:TypeId} {d:TypeDesc} (h:P.underlying t=some d) (w:World):(isAgg t).run P w = .ok (isAggD d) w:=by
 simp only [isAgg,Sem.run_bind,run_underlying h,Result.andThen_ok]
 cases d <;> rfl
theorem run_size {t:TypeId} {i:TypeInfo} (h:P.info? t=some i) (w:World):(sizeOf t).run P w = .ok i.size w:=by
 simp [sizeOf,typeInfo,h]
theorem run_info {t:TypeId} {i:TypeInfo} (h:P.info? t=some i) (w:World):(typeInfo t).run P w = .ok i w:=by
 simp [typeInfo,h]
theorem sizeT_ok (hcx:CxOk P cx) {t:TypeId} {n:Nat} (h:sizeT cx t=some n):∃ i,P.info? t=some i∧i.size=n:=by
 simp only [sizeT] at h
 split at h
 ·rename_i i hi; cases h; exact ⟨i,hcx.ty _ _ hi,rfl⟩
 ·cases h
theorem zeroT_ok (hcx:CxOk P cx) {t:TypeId} {z:Value} (h:zeroT cx t=some z) (w:World):(zeroValue t).run P w = .ok z w∧plainV z=true:=by
 simp only [zeroT] at h
 split at h
 ·rename_i i hi
  split at h
  ·rename_i y hy
   split at h
   ·rename_i hp
    cases h
    exact ⟨by simp [zeroValue,typeInfo,hcx.ty _ _ hi,hy],hp⟩
   ·cases h
  ·cases h
 ·cases h
theorem readL_ok:∀ (n i:Nat) (c:Tr Value) (l:List Value),readL c n i=some l→l.length=n∧∀ j,j < n→c.get (i+j)=l[j]?
 | 0,i,c,l,h=>by simp only [readL] at h; cases h; exact ⟨rfl,fun j hj=>by omega⟩
 | n+1,i,c,l,h=>by
  simp only [readL] at h
  split at h
  ·rename_i v hv
   split at h
   ·rename_i l0 hl
    cases h
    obtain ⟨h1,h2⟩:=readL_ok n (i+1) c l0 hl
    refine ⟨by simp [h1],fun j hj=>?_⟩
    cases j with
    | zero=>simpa using hv
    | succ j=>
     have:=h2 j (by omega)
     rw [show i+(j+1)=i+1+j by omega,this]; simp
   ·cases h
  ·cases h
theorem add_none (b o n:Nat):(⟨b,o,none⟩:Addr).add n=⟨b,o+n,none⟩:=by
 unfold Addr.add; split <;> simp_all
theorem row_ok (h0:R0 P φ m w) {a:Addr} {a':Addr} {n:Nat} {l:List Value} (h:rowAtL m a n=some l) (ha:VR φ (.pointer (some a)) (.pointer (some a'))) :
  a'.spot=none∧∃ l',LR φ l l'∧l.length=n∧∀ (j:Nat) (v:Value),l'[j]? = some v→w.cell? (a'.add j)=some v:=by
 cases ha with
 | ptr b off lc hb=>
  refine ⟨rfl,?_⟩
  simp only [rowAtL] at h
  split at h
  ·rename_i c k e x hk
   split at h
   ·rename_i hle
    obtain ⟨l0,hl0,c',hc',hn,hre,hsz,hcells,hx1,hx2⟩:=h0.obj _ _ hk
    rw [hb] at hl0; cases hl0
    obtain ⟨r1,r2⟩:=readL_ok _ _ _ _ h
    have hle':off+n≤k:=Nat.le_of_ble_eq_true hle
    refine ⟨(c'.toList.drop (lc.ro+off)).take n,⟨?_,?_⟩,r1,?_⟩
    ·rw [r1,List.length_take,List.length_drop]; simp; omega
    ·intro i v v' h1 h2
     have hi:i < n:=by rw [← r1]; exact (List.getElem?_eq_some_iff.1 h1).1
     have e1:=r2 i hi
     rw [h1] at e1
     obtain ⟨u',g2,g3⟩:=hcells (off+i) (by omega)
     have g3:=g3 _ e1
     rw [List.getElem?_take,if_pos hi,List.getElem?_drop] at h2
     rw [show lc.ro+(off+i)=lc.ro+off+i by omega,← Array.getElem?_toList,h2] at g2
     cases g2; exact g3
    ·intro j v h1
     rw [List.getElem?_take] at h1
     split at h1
     ·rw [List.getElem?_drop,Array.getElem?_toList] at h1
      rw [add_none]
      simp [World.cell?,hc',h1]
     ·cases h1
   ·cases h
  ·rename_i c k hk
   split at h
   ·rename_i hle
    obtain ⟨l0,hl0,c',e,fr,hc',hn,hs0,hsz,hcells⟩:=h0.obj _ _ hk
    rw [hb] at hl0; cases hl0
    obtain ⟨r1,r2⟩:=readL_ok _ _ _ _ h
    have hle':off+n≤k:=Nat.le_of_ble_eq_true hle
    refine ⟨(c'.toList.drop (lc.ro+off)).take n,⟨?_,?_⟩,r1,?_⟩
    ·rw [r1,List.length_take,List.length_drop]; simp; omega
    ·intro i v v' h1 h2
     have hi:i < n:=by rw [← r1]; exact (List.getElem?_eq_some_iff.1 h1).1
     have e1:=r2 i hi
     rw [h1] at e1
     obtain ⟨u',g2,g3⟩:=hcells (off+i) v (by omega) e1
     rw [List.getElem?_take,if_pos hi,List.getElem?_drop] at h2
     rw [show lc.ro+(off+i)=lc.ro+off+i by omega,← Array.getElem?_toList,h2] at g2
     cases g2; exact g3
    ·intro j v h1
     rw [List.getElem?_take] at h1
     split at h1
     ·rw [List.getElem?_drop,Array.getElem?_toList] at h1
      rw [add_none]
      simp [World.cell?,hc',h1]
     ·cases h1
   ·cases h
  ·cases h
theorem loadT_ok (hcx:CxOk P cx) (h0:R0 P φ m w) {t:TypeId} {a:Addr} {v:Value} {x:Value} (h:loadT cx m t a=some v) (ha:VR φ (.pointer (some a)) x) :
  ∃ v',(Instr.loadAt t x).run P w = .ok v' w∧VR φ v v':=by
 obtain ⟨a',rfl⟩:∃ a',x = .pointer (some a'):=by cases ha; exact ⟨_,rfl⟩
 simp only [loadT] at h
 split at h
 ·rename_i d n hd hn
  obtain ⟨i,hi,rfl⟩:=sizeT_ok hcx hn
  have hu:=hcx.un _ _ hd
  split at h
  ·rename_i hag
   split at h
   ·rename_i l hl
    cases h
    obtain ⟨hs,l',hlr,hlen,hc⟩:=row_ok h0 hl ha
    have hrun:=run_loadCells_list (P:=P) w a' l' hc
    refine ⟨.agg l'.toArray,?_,.agg _ _ (by simpa using hlr.1) (by simpa using hlr.2)⟩
    simp only [Instr.loadAt,Instr.sureAddr,loadVar,Sem.run_bind,Sem.run_pure,Result.andThen_ok,run_isAgg hu,hag,if_true,run_size hi]
    rw [← hlen,hlr.1]
    simp [hrun]
   ·cases h
  ·rename_i hag
   split at h
   ·rename_i u hl
    cases h
    obtain ⟨hs,l',hlr,hlen,hc⟩:=row_ok h0 hl ha
    obtain ⟨v',r',rfl,hv,hr⟩:=hlr.uncons
    refine ⟨v',?_,hv⟩
    have hc0:w.cell? a'=some v':=by
     have:=hc 0 v' rfl
     simpa [Addr.add] using this
    simp [Instr.loadAt,Instr.sureAddr,loadVar,run_isAgg hu,hag,load,Sem.run,hc0]
   ·cases h
 ·cases h
end Go.AX
