import Derived.Test.YtiehbnmpaeedpaaGreatQR02
import Derived.Calls
import Derived.Orders
import Derived.Laws.CopyRow
import Derived.Laws.Sem
import Derived.Laws.Entries
import Derived.WideLaws
import Derived.Laws.NewFold
namespace Go.AX
namespace Tr
variable {α : Type}
theorem beq_true {a b:Nat}:Nat.beq a b=true↔a=b:=by
 constructor
 ·exact Nat.eq_of_beq_eq_true
 ·rintro rfl; exact Nat.beq_refl a
theorem beq_false {a b:Nat}:Nat.beq a b=false↔a≠b:=by
 constructor
 ·intro h e; rw [beq_true.2 e] at h; cases h
 ·intro h
  cases e:Nat.beq a b with
  | true=>exact absurd (beq_true.1 e) h
  | false=>rfl
theorem get_nil (k:Nat):(nil:Tr α).get k=none:=rfl
theorem get_node (v:Option α) (l r:Tr α) (k:Nat):(node v l r).get k=if k=0 then v else if Nat.mod k 2=1 then l.get (Nat.div k 2) else r.get (Nat.pred (Nat.div k 2)):=by
 show @Bool.rec (fun _=>Option α) (@Bool.rec (fun _=>Option α) (r.get (Nat.pred (Nat.div k 2))) (l.get (Nat.div k 2)) (Nat.beq (Nat.mod k 2) 1)) v (Nat.beq k 0)=_
 by_cases h0:k=0
 ·rw [beq_true.2 h0,if_pos h0]
 ·rw [beq_false.2 h0,if_neg h0]
  by_cases h1:Nat.mod k 2=1
  ·rw [beq_true.2 h1,if_pos h1]
  ·rw [beq_false.2 h1,if_neg h1]
theorem putAt_node (x v:Option α) (l r:Tr α) (k:Nat):putAt x (node v l r) k=if k=0 then .node x l r else if Nat.mod k 2=1 then .node v (putAt x l (Nat.div k 2)) r else .node v l (putAt x r (Nat.pred (Nat.div k 2))):=by
 show @Bool.rec (fun _=>Tr α) (@Bool.rec (fun _=>Tr α) (.node v l (putAt x r (Nat.pred (Nat.div k 2)))) (.node v (putAt x l (Nat.div k 2)) r) (Nat.beq (Nat.mod k 2) 1)) (.node x l r) (Nat.beq k 0)=_
 by_cases h0:k=0
 ·rw [beq_true.2 h0,if_pos h0]
 ·rw [beq_false.2 h0,if_neg h0]
  by_cases h1:Nat.mod k 2=1
  ·rw [beq_true.2 h1,if_pos h1]
  ·rw [beq_false.2 h1,if_neg h1]
theorem path_succ (x:Option α) (f k:Nat):path x (f+1) k=if k=0 then .node x .nil .nil else if Nat.mod k 2=1 then .node none (path x f (Nat.div k 2)) .nil else .node none .nil (path x f (Nat.pred (Nat.div k 2))):=by
 show @Bool.rec (fun _=>Tr α) (@Bool.rec (fun _=>Tr α) (.node none .nil (path x f (Nat.pred (Nat.div k 2)))) (.node none (path x f (Nat.div k 2)) .nil) (Nat.beq (Nat.mod k 2) 1)) (.node x .nil .nil) (Nat.beq k 0)=_
 by_cases h0:k=0
 ·rw [beq_true.2 h0,if_pos h0]
 ·rw [beq_false.2 h0,if_neg h0]
  by_cases h1:Nat.mod k 2=1
  ·rw [beq_true.2 h1,if_pos h1]
  ·rw [beq_false.2 h1,if_neg h1]
theorem div_le {k f:Nat} (_:k≠0) (h:k≤f+1):Nat.div k 2≤f:=by
 show k / 2≤f
 omega
theorem pred_div_le {k f:Nat} (_:k≠0) (h:k≤f+1):Nat.pred (Nat.div k 2)≤f:=by
 show k / 2 - 1≤f
 omega
theorem odd_inj {j k:Nat} (hj:Nat.mod j 2=1) (hk:Nat.mod k 2=1):Nat.div j 2=Nat.div k 2↔j=k:=by
 show j / 2=k / 2↔j=k
 have a:j % 2=1:=hj
 have b:k % 2=1:=hk
 omega
theorem even_inj {j k:Nat} (j0:j≠0) (k0:k≠0) (hj:Nat.mod j 2≠1) (hk:Nat.mod k 2≠1):Nat.pred (Nat.div j 2)=Nat.pred (Nat.div k 2)↔j=k:=by
 show j / 2 - 1=k / 2 - 1↔j=k
 have a:j % 2≠1:=hj
 have b:k % 2≠1:=hk
 omega
theorem get_path (x:Option α):∀ (f k j:Nat),k≤f→(path x f k).get j=if j=k then x else none:=by
 intro f
 induction f with
 | zero=>
  intro k j hk
  obtain rfl:k=0:=by omega
  show (node x nil nil).get j=_
  rw [get_node]
  by_cases hj:j=0
  ·rw [if_pos hj,if_pos hj]
  ·rw [if_neg hj,if_neg hj]; simp only [get_nil,ite_self]
 | succ f ih=>
  intro k j hk
  rw [path_succ]
  by_cases k0:k=0
  ·rw [if_pos k0,get_node,k0]
   by_cases hj:j=0
   ·rw [if_pos hj,if_pos hj]
   ·rw [if_neg hj,if_neg hj]; simp only [get_nil,ite_self]
  ·rw [if_neg k0]
   by_cases ko:Nat.mod k 2=1
   ·rw [if_pos ko,get_node]
    by_cases hj:j=0
    ·rw [if_pos hj,if_neg (by omega)]
    ·rw [if_neg hj]
     by_cases ho:Nat.mod j 2=1
     ·rw [if_pos ho,ih _ _ (div_le k0 hk)]
      by_cases h:j=k
      ·rw [if_pos h,if_pos ((odd_inj ho ko).2 h)]
      ·rw [if_neg h,if_neg (fun e=>h ((odd_inj ho ko).1 e))]
     ·rw [if_neg ho,if_neg (fun (e:j=k)=>ho (e ▸ ko))]; rfl
   ·rw [if_neg ko,get_node]
    by_cases hj:j=0
    ·rw [if_pos hj,if_neg (by omega)]
    ·rw [if_neg hj]
     by_cases ho:Nat.mod j 2=1
     ·rw [if_pos ho,if_neg (fun (e:j=k)=>ko (e ▸ ho))]; rfl
     ·rw [if_neg ho,ih _ _ (pred_div_le k0 hk)]
      by_cases h:j=k
      ·rw [if_pos h,if_pos ((even_inj hj k0 ho ko).2 h)]
      ·rw [if_neg h,if_neg (fun e=>h ((even_inj hj k0 ho ko).1 e))]
theorem get_putAt (x:Option α):∀ (t:Tr α) (k j:Nat),(putAt x t k).get j=if j=k then x else t.get j:=by
 intro t
 induction t with
 | nil=>intro k j; exact get_path x k k j (Nat.le_refl k)
 | node v l r ihl ihr=>
  intro k j
  rw [putAt_node,get_node v l r j]
  by_cases k0:k=0
  ·rw [if_pos k0,get_node,k0]
   by_cases hj:j=0
   ·rw [if_pos hj,if_pos hj]
   ·rw [if_neg hj,if_neg hj,if_neg hj]
  ·rw [if_neg k0]
   by_cases ko:Nat.mod k 2=1
   ·rw [if_pos ko,get_node]
    by_cases hj:j=0
    ·rw [if_pos hj,if_neg (by omega),if_pos hj]
    ·rw [if_neg hj,if_neg hj]
     by_cases ho:Nat.mod j 2=1
     ·rw [if_pos ho,if_pos ho,ihl]
      by_cases h:j=k
      ·rw [if_pos h,if_pos ((odd_inj ho ko).2 h)]
      ·rw [if_neg h,if_neg (fun e=>h ((odd_inj ho ko).1 e))]
     ·rw [if_neg ho,if_neg ho,if_neg (fun (e:j=k)=>ho (e ▸ ko))]
   ·rw [if_neg ko,get_node]
    by_cases hj:j=0
    ·rw [if_pos hj,if_neg (by omega),if_pos hj]
    ·rw [if_neg hj,if_neg hj]
     by_cases ho:Nat.mod j 2=1
     ·rw [if_pos ho,if_pos ho,if_neg (fun (e:j=k)=>ko (e ▸ ho))]
     ·rw [if_neg ho,if_neg ho,ihr]
      by_cases h:j=k
      ·rw [if_pos h,if_pos ((even_inj hj k0 ho ko).2 h)]
      ·rw [if_neg h,if_neg (fun e=>h ((even_inj hj k0 ho ko).1 e))]
theorem get_put (t:Tr α) (k j:Nat) (x:α):(t.put k x).get j=if j=k then some x else t.get j:=get_putAt _ t k j
theorem get_del (t:Tr α) (k j:Nat):(t.del k).get j=if j=k then none else t.get j:=get_putAt _ t k j
theorem get_tab (f:Nat→Option α):∀ (d a m k:Nat) (x:α),(tab f d a m).get k=some x→f (a+m*k)=some x:=by
 intro d
 induction d with
 | zero=>intro a m k x h; simp [tab,get] at h
 | succ d ih=>
  intro a m k x h
  by_cases h0:k=0
  ·subst h0; rw [tab,get_node,if_pos rfl] at h; simpa using h
  ·by_cases ho:Nat.mod k 2=1
   ·rw [tab,get_node,if_neg h0,if_pos ho] at h
    have:=ih _ _ _ _ h
    rw [← this]; congr 1
    show a+m*k=a+m+2*m*(k / 2)
    have o:k % 2=1:=ho
    have e:k=2*(k / 2)+1:=by omega
    generalize k / 2=q at *
    subst e
    rw [Nat.mul_add,Nat.mul_one,Nat.mul_comm 2 m,Nat.mul_assoc]; omega
   ·rw [tab,get_node,if_neg h0,if_neg ho] at h
    have:=ih _ _ _ _ h
    rw [← this]; congr 1
    show a+m*k=a+2*m+2*m*(k / 2 - 1)
    have o:k % 2≠1:=ho
    have e:k=2*(k / 2 - 1)+2:=by omega
    generalize k / 2 - 1=q at *
    subst e
    rw [Nat.mul_add,Nat.mul_comm 2 m,Nat.mul_assoc]; omega
end Tr
structure CxOk (P:Program) (cx:Cx):Prop where
 ty:∀ t i,cx.ty.get t=some i→P.info? t=some i
 un:∀ t d,cx.un.get t=some d→P.underlying t=some d
 fn:∀ f x,cx.fn.get f=some x→P.funcs[f]? = some x∧(x.name == "runtime.NumGoroutine")=false
 nh:∀ t,cx.nh.get t=some true→P.stoodInHeld t=false
 gl:cx.globals=P.globals.size
theorem CxOk.of (P:Program) (ov:Tr (List Value→Mem→Option (Value×Mem)):=.nil):CxOk P (Cx.of P ov) where
 ty t i h:=by simpa using Tr.get_tab _ _ _ _ _ _ h
 un t i h:=by simpa using Tr.get_tab _ _ _ _ _ _ h
 fn t i h:=by
  have:=Tr.get_tab _ _ _ _ _ _ h
  simp only [Nat.zero_add,Nat.one_mul] at this
  split at this
  ·rename_i x hx
   split at this
   ·cases this
   ·rename_i hn
    cases this
    exact ⟨hx,hn⟩
  ·cases this
 nh t h:=by
  have:=Tr.get_tab _ _ _ _ _ _ h
  simpa using this
 gl:=rfl
structure Loc where
 rb:Nat
 ro:Nat
 n:Nat
 re:Nat
 s:Nat
abbrev Phi:=Nat→Option Loc
def CapR (l:Loc) (off cap cap':Nat):Prop:=
 cap'=cap∨(0 < l.s∧off+cap*l.s=l.n∧cap≤cap'∧off+cap'*l.s≤l.re)
inductive VR (φ : Phi):Value→Value→Prop
 | bool (b:Bool):VR φ (.bool b) (.bool b)
 | int (k:IntKind) (n:Int):VR φ (.int k n) (.int k n)
 | string (s:ByteArray):VR φ (.string s) (.string s)
 | ptr0:VR φ (.pointer none) (.pointer none)
 | ptr (b off:Nat) (l:Loc) (h:φ b=some l):VR φ (.pointer (some ⟨b,off,none⟩)) (.pointer (some ⟨l.rb,l.ro+off,none⟩))
 | sl0 (len cap:Nat):VR φ (.slice none len cap) (.slice none len cap)
 | sl (b off len cap cap':Nat) (l:Loc) (h:φ b=some l) (hc:CapR l off cap cap'):VR φ (.slice (some ⟨b,off,none⟩) len cap) (.slice (some ⟨l.rb,l.ro+off,none⟩) len cap')
 | slE (a a':Addr):VR φ (.slice (some a) 0 0) (.slice (some a') 0 0)
 | map0:VR φ (.map none) (.map none)
 | map (r:Nat) (l:Loc) (h:φ r=some l):VR φ (.map (some r)) (.map (some l.rb))
 | func (fn:Fn) (f f' c c':Array Value) (hf:f.toList.length=f'.toList.length) (hfv:∀ (i:Nat) (v v':Value),f.toList[i]? = some v→f'.toList[i]? = some v'→VR φ v v')
   (hc:c.toList.length=c'.toList.length) (hcv:∀ (i:Nat) (v v':Value),c.toList[i]? = some v→c'.toList[i]? = some v'→VR φ v v'):VR φ (.func fn f c) (.func fn f' c')
 | nilFunc:VR φ .nilFunc .nilFunc
 | iface (t:TypeId) (v v':Value) (h:VR φ v v'):VR φ (.iface t v) (.iface t v')
 | nilIface:VR φ .nilIface .nilIface
 | agg (c c':Array Value) (hc:c.toList.length=c'.toList.length) (hcv:∀ (i:Nat) (v v':Value),c.toList[i]? = some v→c'.toList[i]? = some v'→VR φ v v'):VR φ (.agg c) (.agg c')
 | tuple (c c':Array Value) (hc:c.toList.length=c'.toList.length) (hcv:∀ (i:Nat) (v v':Value),c.toList[i]? = some v→c'.toList[i]? = some v'→VR φ v v'):VR φ (.tuple c) (.tuple c')
def LR (φ : Phi) (l l':List Value):Prop:=l.length=l'.length∧∀ (i:Nat) (v v':Value),l[i]? = some v→l'[i]? = some v'→VR φ v v'
def Ext (φ φ':Phi):Prop:=∀ b l,φ b=some l→φ' b=some l
theorem VR.mono {φ φ':Phi} (h:Ext φ φ') {v v':Value} (hv:VR φ v v'):VR φ' v v':=by
 induction hv with
 | bool b=>exact .bool b
 | int k n=>exact .int k n
 | string s=>exact .string s
 | ptr0=>exact .ptr0
 | ptr b off l hb=>exact .ptr b off l (h _ _ hb)
 | sl0 len cap=>exact .sl0 len cap
 | sl b off len cap cap' l hb hc=>exact .sl b off len cap cap' l (h _ _ hb) hc
 | slE a a'=>exact .slE a a'
 | map0=>exact .map0
 | map r l hb=>exact .map r l (h _ _ hb)
 | func fn f f' c c' hf _ hc _ ih1 ih2=>exact .func fn f f' c c' hf ih1 hc ih2
 | nilFunc=>exact .nilFunc
 | iface t v v' _ ih=>exact .iface t v v' ih
 | nilIface=>exact .nilIface
 | agg c c' hc _ ih=>exact .agg c c' hc ih
 | tuple c c' hc _ ih=>exact .tuple c c' hc ih
theorem LR.nil (φ : Phi):LR φ [] []:=⟨rfl,fun i v v' h=>by simp at h⟩
theorem LR.cons {φ : Phi} {v v':Value} {l l':List Value} (h:VR φ v v') (hl:LR φ l l'):LR φ (v :: l) (v' :: l'):=by
 refine ⟨by simp [hl.1],fun i a a' h1 h2=>?_⟩
 cases i with
 | zero=>simp at h1 h2; subst h1; subst h2; exact h
 | succ i=>simp at h1 h2; exact hl.2 i a a' h1 h2
theorem LR.uncons {φ : Phi} {v:Value} {l:List Value} {l':List Value} (h:LR φ (v :: l) l'):∃ v' r',l'=v' :: r'∧VR φ v v'∧LR φ l r':=by
 cases l' with
 | nil=>have:=h.1; simp at this
 | cons v' r'=>
  refine ⟨v',r',rfl,h.2 0 v v' rfl rfl,by simpa using h.1,fun i a a' h1 h2=>h.2 (i+1) a a' (by simpa using h1) (by simpa using h2)⟩
theorem LR.nil_iff {φ : Phi} {l':List Value} (h:LR φ [] l'):l'=[]:=by
 have:=h.1
 exact List.length_eq_zero_iff.1 this.symm
theorem LR.append {φ : Phi} {a a' b b':List Value} (h:LR φ a a') (k:LR φ b b'):LR φ (a ++ b) (a' ++ b'):=by
 refine ⟨by simp [h.1,k.1],fun i v v' h1 h2=>?_⟩
 by_cases hi:i < a.length
 ·rw [List.getElem?_append_left hi] at h1
  rw [List.getElem?_append_left (by rw [← h.1]; exact hi)] at h2
  exact h.2 i v v' h1 h2
 ·rw [List.getElem?_append_right (by omega)] at h1
  rw [List.getElem?_append_right (by rw [← h.1]; omega)] at h2
  rw [← h.1] at h2
  exact k.2 _ v v' h1 h2
theorem LR.take {φ : Phi} {a a':List Value} (h:LR φ a a') (n:Nat):LR φ (a.take n) (a'.take n):=by
 refine ⟨by simp [h.1],fun i v v' h1 h2=>?_⟩
 rw [List.getElem?_take] at h1 h2
 split at h1
 ·exact h.2 i v v' h1 (by simpa [*] using h2)
 ·cases h1
theorem LR.drop {φ : Phi} {a a':List Value} (h:LR φ a a') (n:Nat):LR φ (a.drop n) (a'.drop n):=by
 refine ⟨by simp [h.1],fun i v v' h1 h2=>?_⟩
 rw [List.getElem?_drop] at h1 h2
 exact h.2 _ v v' h1 h2
theorem LR.get {φ : Phi} {a a':List Value} (h:LR φ a a') {i:Nat} {v:Value} (hi:a[i]? = some v):∃ v',a'[i]? = some v'∧VR φ v v':=by
 have hlt:i < a.length:=(List.getElem?_eq_some_iff.1 hi).1
 have hlt':i < a'.length:=by rw [← h.1]; exact hlt
 exact ⟨a'[i],List.getElem?_eq_getElem hlt',h.2 i v _ hi (List.getElem?_eq_getElem hlt')⟩
theorem VR.plain1 (φ : Phi) {v:Value} (h:plain1 v=true):VR φ v v:=by
 cases v with
 | bool b=>exact .bool b
 | int k n=>exact .int k n
 | string s=>exact .string s
 | pointer a=>cases a with
  | none=>exact .ptr0
  | some a=>simp [AX.plain1] at h
 | slice a n c=>cases a with
  | none=>exact .sl0 n c
  | some a=>simp [AX.plain1] at h
 | map r=>cases r with
  | none=>exact .map0
  | some a=>simp [AX.plain1] at h
 | nilFunc=>exact .nilFunc
 | nilIface=>exact .nilIface
 | _=>simp [AX.plain1] at h
theorem LR.plain (φ : Phi) {l:List Value} (h:l.all AX.plain1=true):LR φ l l:=
 ⟨rfl,fun i v v' h1 h2=>by
  rw [h1] at h2; cases h2
  exact VR.plain1 φ (List.all_eq_true.1 h v (List.mem_of_getElem? h1))⟩
theorem VR.plain (φ : Phi) {v:Value} (h:plainV v=true):VR φ v v:=by
 cases v with
 | agg c=>exact .agg c c rfl (LR.plain φ (by simpa [plainV] using h)).2
 | tuple c=>exact .tuple c c rfl (LR.plain φ (by simpa [plainV] using h)).2
 | iface t v=>exact .iface t v v (VR.plain1 φ (by simpa [plainV] using h))
 | func fn f c=>
  have h':f.toList=[]∧c.toList=[]:=by simpa [plainV] using h
  refine .func fn f f c c rfl ?_ rfl ?_
  ·intro i v v' h1; simp [h'.1] at h1
  ·intro i v v' h1; simp [h'.2] at h1
 | _=>exact VR.plain1 φ (by simpa [plainV] using h)
theorem VR.cells {φ : Phi} {v v':Value} (h:VR φ v v'):LR φ (cellsL v) (cellsL v'):=by
 cases h with
 | agg c c' hc hcv=>exact ⟨hc,hcv⟩
 | bool b=>exact (LR.nil φ).cons (.bool b)
 | int k n=>exact (LR.nil φ).cons (.int k n)
 | string s=>exact (LR.nil φ).cons (.string s)
 | ptr0=>exact (LR.nil φ).cons .ptr0
 | ptr b off l hb=>exact (LR.nil φ).cons (.ptr b off l hb)
 | sl0 len cap=>exact (LR.nil φ).cons (.sl0 len cap)
 | sl b off len cap cap' l hb hc=>exact (LR.nil φ).cons (.sl b off len cap cap' l hb hc)
 | slE a a'=>exact (LR.nil φ).cons (.slE a a')
 | map0=>exact (LR.nil φ).cons .map0
 | map r l hb=>exact (LR.nil φ).cons (.map r l hb)
 | func fn f f' c c' a b c2 d=>exact (LR.nil φ).cons (.func fn f f' c c' a b c2 d)
 | nilFunc=>exact (LR.nil φ).cons .nilFunc
 | iface t v v' hv=>exact (LR.nil φ).cons (.iface t v v' hv)
 | nilIface=>exact (LR.nil φ).cons .nilIface
 | tuple c c' hc hcv=>exact (LR.nil φ).cons (.tuple c c' hc hcv)
theorem cells_toList (v:Value):v.cells.toList=cellsL v:=by cases v <;> rfl
theorem VR.one1 {φ : Phi} {v v':Value} (h:VR φ v v'):one1 v'=one1 v:=by cases h <;> rfl
theorem LR.one1 {φ : Phi} {l l':List Value} (h:LR φ l l') (ho:l.all AX.one1=true):∀ v∈l',v.oneCell'=true:=by
 intro v hv
 obtain ⟨i,hi⟩:=List.getElem?_of_mem hv
 have hlt:i < l.length:=by rw [h.1]; exact (List.getElem?_eq_some_iff.1 hi).1
 have h1:=h.2 i _ v (List.getElem?_eq_getElem hlt) hi
 have h2:AX.one1 l[i]=true:=List.all_eq_true.1 ho _ (List.getElem_mem hlt)
 rw [← h1.one1] at h2
 cases v <;> first | rfl | (simp [AX.one1] at h2)
def ER (φ : Phi) (es es':List MapEntry):Prop:=
 es.length=es'.length∧∀ (i:Nat) (e e':MapEntry),es[i]? = some e→es'[i]? = some e'→VR φ e.key e'.key∧VR φ e.val e'.val∧e.born=e'.born
def OR (P:Program) (φ : Phi) (w:World) (l:Loc):AObj→Prop
 | .cells c n e loose=>∃ c':Array Value,w.heap[l.rb]? = some (.cells c' e (0,0))∧l.n=n∧n≤l.re∧l.ro+l.re≤c'.size ∧
   (∀ (i:Nat),i < n→∃ v':Value,c'[l.ro+i]? = some v'∧∀ v,c.get i=some v→VR φ v v') ∧
   (loose=false→l.s=0∧l.re=n)∧(loose=true→0 < l.s∧∀ i,P.info? e=some i→i.size=l.s)
 | .map es clock=>∃ es':Array MapEntry,w.heap[l.rb]? = some (.map es' clock)∧ER φ es es'.toList
 | .iter s pos=>w.heap[l.rb]? = some (.stringIter s pos)
 | .ro c n=>∃ (c':Array Value) (e:TypeId) (fr:Nat×Nat),w.heap[l.rb]? = some (.cells c' e fr)∧l.n=n∧l.s=0∧l.ro+n≤c'.size ∧
   ∀ (i:Nat) (v:Value),i < n→c.get i=some v→∃ v',c'[l.ro+i]? = some v'∧VR φ v v'
theorem cellR_of {φ : Phi} {c:Tr Value} {c':Array Value} {i j:Nat} {v v':Value} (h1:c.get i=some v) (h2:c'[j]? = some v') (h3:VR φ v v'):∃ v':Value,c'[j]? = some v'∧∀ v,c.get i=some v→VR φ v v':=
 ⟨v',h2,fun u hu=>by rw [h1] at hu; cases hu; exact h3⟩
structure R0 (P:Program) (φ : Phi) (m:Mem) (w:World):Prop where
 obj:∀ b o,m.hp.get b=some o→∃ l,φ b=some l∧OR P φ w l o
 inj:∀ b1 b2 o1 o2 l1 l2,m.hp.get b1=some o1→m.hp.get b2=some o2→φ b1=some l1→φ b2=some l2→l1.rb=l2.rb→b1=b2
 glob:∀ g,g≤P.globals.size→∃ l,φ g=some l∧l.rb=g∧l.ro=0
def Fresh (φ : Phi) (n:Nat):Prop:=∀ b,n≤b→φ b=none
def Owned (φ : Phi) (m:Mem) (r:Nat):Prop:=∃ b o l,m.fl≤b∧m.hp.get b=some o∧φ b=some l∧l.rb=r
class Kap where
 k:Prop
variable [Kap]
structure Stp (φ : Phi) (m:Mem) (w:World) (φ':Phi) (m':Mem) (w':World):Prop where
 ext:Ext φ φ'
 own:∀ r,Owned φ' m' r→w.heap.size≤r∨Owned φ m r
 same:∀ r,r < w.heap.size→¬ Owned φ m r→w'.heap[r]? = w.heap[r]?
 size:w.heap.size≤w'.heap.size
 os:w'.os=w.os
 tape:w'.tape=w.tape
 output:w'.output=w.output
 nx:m.nx≤m'.nx
 fl:m'.fl=m.fl
 low:∀ b,b < m.fl→m'.hp.get b=m.hp.get b
 old:∀ b,b < m.nx→m.hp.get b=none→m'.hp.get b=none
 keep:∀ b,b < m.nx→φ' b = φ b
 drawn:Kap.k→w.drawn≤w'.drawn
theorem Stp.refl (φ : Phi) (m:Mem) (w:World):Stp φ m w φ m w:=
 ⟨fun _ _ h=>h,fun _ h=>.inr h,fun _ _ _=>rfl,Nat.le_refl _,rfl,rfl,rfl,Nat.le_refl _,rfl,fun _ _=>rfl,fun _ _ h=>h,fun _ _=>rfl,fun _=>Nat.le_refl _⟩
theorem Stp.trans {φ φ1 φ2:Phi} {m m1 m2:Mem} {w w1 w2:World} (h:Stp φ m w φ1 m1 w1) (k:Stp φ1 m1 w1 φ2 m2 w2):Stp φ m w φ2 m2 w2 where
 ext b l hb:=k.ext b l (h.ext b l hb)
 own r hr:=by
  rcases k.own r hr with h1 | h1
  ·exact .inl (Nat.le_trans h.size h1)
  ·exact h.own r h1
 same r hr hn:=by
  rw [k.same r (Nat.lt_of_lt_of_le hr h.size) (fun ho=>?_),h.same r hr hn]
  rcases h.own r ho with h1 | h1
  ·omega
  ·exact hn h1
 size:=Nat.le_trans h.size k.size
 os:=k.os.trans h.os
 tape:=k.tape.trans h.tape
 output:=k.output.trans h.output
 nx:=Nat.le_trans h.nx k.nx
 fl:=k.fl.trans h.fl
 low b hb:=(k.low b (by rw [h.fl]; exact hb)).trans (h.low b hb)
 old b hb hn:=k.old b (Nat.lt_of_lt_of_le hb h.nx) (h.old b hb hn)
 keep b hb:=(k.keep b (Nat.lt_of_lt_of_le hb h.nx)).trans (h.keep b hb)
 drawn hk:=Nat.le_trans (h.drawn hk) (k.drawn hk)
omit [Kap] in
theorem R0.world {P:Program} {φ : Phi} {m:Mem} {w w':World} (h:R0 P φ m w) (hw:w'.heap=w.heap):R0 P φ m w' where
 obj b o hb:=by
  obtain ⟨l,hl,ho⟩:=h.obj b o hb
  refine ⟨l,hl,?_⟩
  cases o <;> simpa [OR,hw] using ho
 inj:=h.inj
 glob:=h.glob
end Go.AX
namespace Go.AX
variable [Kap]
variable {cx:Cx}
def LeC (f g:Caller):Prop:=∀ k a m r,f k a m=some r→g k a m=some r
omit [Kap] in
theorem callA_mono {f g:Caller} (h:LeC f g) {st:St} {c:Call} {r:Value×Mem} (e:callA cx f st c=some r):callA cx g st c=some r:=by
 unfold callA at e ⊢
 split at e
 ·cases e
 ·split at e
  ·exact e
  ·split at e
   ·exact h _ _ _ _ e
   ·cases e
  ·split at e
   ·split at e
    ·exact h _ _ _ _ e
    ·cases e
   ·cases e
omit [Kap] in
theorem opA_mono {f g:Caller} (h:LeC f g) {st:St} {o:Oper} {r:Option Value×Mem} (e:opA cx f st o=some r):opA cx g st o=some r:=by
 unfold opA at e ⊢
 cases ho:o.op with
 | call c=>
  simp only [ho] at e ⊢
  cases hc:callA cx f st c with
  | none=>rw [hc] at e; cases e
  | some x=>rw [hc] at e; rw [callA_mono h hc]; exact e
 | makeMap t r=>cases r <;> (simp only [ho] at e ⊢; exact e)
 | _=>simp only [ho] at e ⊢; exact e
omit [Kap] in
theorem runOps_mono {f g:Caller} (h:LeC f g) {ops:List Oper}:∀ {rest:List Oper} {st st':St},runOps cx f ops rest st=some st'→runOps cx g ops rest st=some st'
 | [],st,st',e=>e
 | o :: r,st,st',e=>by
  unfold runOps at e ⊢
  split at e
  ·rename_i hw
   try simp only [hw]
   split at e
   ·rename_i h1
    simp only [opA_mono h h1]
    split at e
    ·rename_i h2; (try simp only [h2]); exact runOps_mono h e
    ·cases e
   ·cases e
  ·rename_i hw
   try simp only [hw]
   split at e
   ·rename_i h2; (try simp only [h2]); exact runOps_mono h e
   ·cases e
  ·cases e
omit [Kap] in
theorem drawMake_mono {f g:Caller} (h:LeC f g) {o:Oper} {i base:Nat} {d:Dr} {st:St} {r:Option Value×Mem×Dr} (e:drawMake cx f o i base d st=some r):drawMake cx g o i base d st=some r:=by
 unfold drawMake at e ⊢
 split at e
 ·rename_i h1; simp only [opA_mono h h1]; exact e
 ·cases e
omit [Kap] in
theorem drawChange_mono {f g:Caller} (h:LeC f g) {ops:List Oper} {o:Oper} {r:List Oper} {s:Nat} {q:List Nat} {i base:Nat} {d:Dr} {st:St} {x:Option Value×Mem×Dr} (e:drawChange cx f ops o r s q i base d st=some x):drawChange cx g ops o r s q i base d st=some x:=by
 unfold drawChange at e ⊢
 split at e
 ·cases e
 ·split at e
  ·split at e
   ·split at e
    ·split at e
     ·rename_i h1; simp only [opA_mono h h1]; exact e
     ·cases e
    ·cases e
   ·split at e
    ·rename_i h1; simp only [opA_mono h h1]; exact e
    ·cases e
  ·split at e
   ·rename_i h1; simp only [opA_mono h h1]; exact e
   ·cases e
omit [Kap] in
theorem drawRead_mono {f g:Caller} (h:LeC f g) {o:Oper} {s i:Nat} {d:Dr} {st:St} {x:Option Value×Mem×Dr} (e:drawRead cx f o s i d st=some x):drawRead cx g o s i d st=some x:=by
 unfold drawRead at e ⊢
 split at e
 ·split at e
  ·rename_i h1; simp only [opA_mono h h1]; exact e
  ·cases e
 ·cases e
omit [Kap] in
theorem drawPlain_mono {f g:Caller} (h:LeC f g) {o:Oper} {d:Dr} {st:St} {x:Option Value×Mem×Dr} (e:drawPlain cx f o d st=some x):drawPlain cx g o d st=some x:=by
 unfold drawPlain at e ⊢
 split at e
 ·rename_i h1; simp only [opA_mono h h1]; exact e
 ·cases e
omit [Kap] in
theorem drawOp_mono {f g:Caller} (h:LeC f g) {ops:List Oper} {o:Oper} {r:List Oper} {s:Nat} {q:List Nat} {i base:Nat} {d:Dr} {st:St} {x:Option Value×Mem×Dr} (e:drawOp cx f ops o r s q i base d st=some x):drawOp cx g ops o r s q i base d st=some x:=by
 unfold drawOp at e ⊢
 split at e
 ·split at e
  ·exact drawMake_mono h e
  ·exact drawChange_mono h e
 ·exact drawRead_mono h e
 ·exact drawPlain_mono h e
omit [Kap] in
theorem runDraw_mono {f g:Caller} (h:LeC f g) {ops:List Oper} {base:Nat}:∀ {rest:List Oper} {ss:List Nat} {i:Nat} {d:Dr} {st st':St},runDraw cx f ops base rest ss i d st=some st'→runDraw cx g ops base rest ss i d st=some st'
 | [],ss,i,d,st,st',e=>by unfold runDraw at e ⊢; exact e
 | o :: r,[],i,d,st,st',e=>by unfold runDraw at e; cases e
 | o :: r,s :: q,i,d,st,st',e=>by
  unfold runDraw at e ⊢
  split at e
  ·rename_i hw
   try simp only [hw]
   split at e
   ·rename_i h1
    simp only [drawOp_mono h h1]
    split at e
    ·rename_i h2; (try simp only [h2]); exact runDraw_mono h e
    ·cases e
   ·cases e
  ·rename_i hw
   try simp only [hw]
   split at e
   ·rename_i h2; (try simp only [h2]); exact runDraw_mono h e
   ·cases e
  ·cases e
def LeR (f g:Code→St→Option (Ex×St)):Prop:=∀ c st r,f c st=some r→g c st=some r
omit [Kap] in
theorem callBody_mono {f g:Code→St→Option (Ex×St)} (h:LeR f g):LeC (callBody cx f) (callBody cx g):=by
 intro k a m r e
 unfold callBody at e ⊢
 split at e
 ·split at e
  ·split at e
   ·rename_i hle
    try rw [hle]
    try simp only
    split at e
    ·rename_i h1; simp only [h _ _ _ h1]; exact e
    ·rename_i h1; simp only [h _ _ _ h1]; exact e
    ·cases e
   ·cases e
  ·cases e
 ·cases e
omit [Kap] in
theorem callOf_mono {f g:Code→St→Option (Ex×St)} (h:LeR f g):LeC (callOf cx f) (callOf cx g):=by
 intro k a m r e
 unfold callOf at e ⊢
 split at e
 ·exact e
 ·exact callBody_mono h _ _ _ _ e
omit [Kap] in
theorem step_mono {f g:Code→St→Option (Ex×St)} (h:LeR f g):LeR (step cx f) (step cx g):=by
 intro c st r e
 have hc:=callOf_mono (cx:=cx) h
 cases c with
 | skip=>exact e
 | label l=>exact e
 | exit id=>exact e
 | ret=>exact e
 | region id ops draw=>
  cases draw with
  | false=>
   simp only [step] at e ⊢
   split at e
   ·rename_i h1; rw [runOps_mono hc h1]; exact e
   ·cases e
  | true=>
   simp only [step] at e ⊢
   split at e
   ·split at e
    ·rename_i h1; simp only [runDraw_mono hc h1]; exact e
    ·cases e
   ·cases e
 | seq x y=>
  simp only [step] at e ⊢
  split at e
  ·rename_i h1; rw [h _ _ _ h1]; exact h _ _ _ e
  ·rename_i hne
   rw [h _ _ _ e]
   split
   ·rename_i heq; cases heq; exact (hne _ e).elim
   ·rfl
 | cond o x y=>
  simp only [step] at e ⊢
  split at e
  ·exact h _ _ _ e
  ·exact h _ _ _ e
  ·cases e
 | block id x=>
  simp only [step] at e ⊢
  split at e
  ·rename_i h1; simp only [h _ _ _ h1]; exact e
  ·rename_i hne
   rw [h _ _ _ e]
   split
   ·rename_i heq; cases heq; exact (hne _ _ e).elim
   ·rfl
 | loop x=>
  simp only [step] at e ⊢
  split at e
  ·rename_i h1; rw [h _ _ _ h1]; exact h _ _ _ e
  ·rename_i hne
   rw [h _ _ _ e]
   split
   ·rename_i heq; cases heq; exact (hne _ e).elim
   ·rfl
 | rangeFunc _ _ _ _=>simp [step] at e
 | goto _=>simp [step] at e
 | scope _=>simp [step] at e
 | refuse _=>simp [step] at e
omit [Kap] in
theorem exec_succ:∀ n,LeR (exec cx n) (exec cx (n+1))
 | 0=>fun c st r e=>by cases e
 | n+1=>step_mono (exec_succ n)
omit [Kap] in
theorem exec_mono {n n':Nat} (h:n≤n'):LeR (exec cx n) (exec cx n'):=by
 induction h with
 | refl=>exact fun _ _ _ e=>e
 | step _ ih=>exact fun c st r e=>exec_succ _ c st r (ih c st r e)
omit [Kap] in
theorem exec_call_mono {n n':Nat} (h:n≤n'):LeC (callOf cx (exec cx n)) (callOf cx (exec cx n')):=callOf_mono (exec_mono h)
def Sub (a b:Tr Value):Prop:=∀ i v,a.get i=some v→b.get i=some v
omit [Kap] in
theorem Sub.put {a b:Tr Value} (h:Sub a b) (d:Nat) (v:Value):Sub (a.put d v) (b.put d v):=by
 intro i x e
 rw [Tr.get_put] at e ⊢
 split at e
 ·rename_i hi; rw [if_pos hi]; exact e
 ·rename_i hi; rw [if_neg hi]; exact h i x e
omit [Kap] in
theorem Sub.del {a b:Tr Value} (h:Sub a b) (d:Nat):Sub (a.del d) (b.del d):=by
 intro i x e
 rw [Tr.get_del] at e ⊢
 split at e
 ·rename_i hi; rw [if_pos hi]; exact e
 ·rename_i hi; rw [if_neg hi]; exact h i x e
omit [Kap] in
theorem Sub.put_of {a b:Tr Value} (h:Sub a b) {d:Nat} {v:Value} (e:b.get d=some v):Sub (a.put d v) b:=by
 intro i x k
 rw [Tr.get_put] at k
 split at k
 ·rename_i hi; subst hi; rw [e]; exact k
 ·exact h i x k
omit [Kap] in
theorem evalA_sub {a b:Tr Value} (h:Sub a b) {sz:Nat} {m:Mem} {x:Operand} {v:Value} (e:evalA cx ⟨a,sz,m⟩ x=some v):evalA cx ⟨b,sz,m⟩ x=some v:=by
 cases x with
 | tmp t=>exact h _ _ e
 | const c=>exact e
 | global g=>exact e
 | func f=>exact e
omit [Kap] in
theorem evalL_sub {a b:Tr Value} (h:Sub a b) {sz:Nat} {m:Mem}:∀ {l:List Operand} {v:List Value},evalL cx ⟨a,sz,m⟩ l=some v→evalL cx ⟨b,sz,m⟩ l=some v
 | [],v,e=>e
 | x :: r,v,e=>by
  unfold evalL at e ⊢
  split at e
  ·rename_i h1
   split at e
   ·rename_i h2; simp only [evalA_sub h h1,evalL_sub h h2]; exact e
   ·cases e
  ·cases e
omit [Kap] in
theorem evalO_sub {a b:Tr Value} (h:Sub a b) {sz:Nat} {m:Mem} {x:Option Operand} {v:Option Value} (e:evalO cx ⟨a,sz,m⟩ x=some v):evalO cx ⟨b,sz,m⟩ x=some v:=by
 cases x with
 | none=>exact e
 | some x=>
  cases h1:evalA cx ⟨a,sz,m⟩ x with
  | none=>simp only [evalO,h1] at e; cases e
  | some y=>simp only [evalO,h1] at e ⊢; simp only [evalA_sub h h1]; exact e
omit [Kap] in
theorem evalP_sub {a b:Tr Value} (h:Sub a b) {sz:Nat} {m:Mem}:∀ {l:List (Nat×Operand)} {v:List (Nat×Value)},evalP cx ⟨a,sz,m⟩ l=some v→evalP cx ⟨b,sz,m⟩ l=some v
 | [],v,e=>e
 | (i,x) :: r,v,e=>by
  unfold evalP at e ⊢
  split at e
  ·rename_i h1
   split at e
   ·rename_i h2; simp only [evalA_sub h h1,evalP_sub h h2]; exact e
   ·cases e
  ·cases e
omit [Kap] in
theorem callA_sub {call:Caller} {a b:Tr Value} (h:Sub a b) {sz:Nat} {m:Mem} {c:Call} {r:Value×Mem} (e:callA cx call ⟨a,sz,m⟩ c=some r):callA cx call ⟨b,sz,m⟩ c=some r:=by
 unfold callA at e ⊢
 cases h1:evalL cx ⟨a,sz,m⟩ c.args.toList with
 | none=>simp [h1] at e
 | some l=>
  simp only [h1] at e
  simp only [evalL_sub h h1]
  cases hc:c.callee with
  | builtin q=>simp only [hc] at e ⊢; exact e
  | value f=>
   simp only [hc] at e ⊢
   cases h2:evalA cx ⟨a,sz,m⟩ f with
   | none=>simp [h2] at e
   | some y=>simp only [h2] at e; simp only [evalA_sub h h2]; exact e
  | invoke x name=>
   simp only [hc] at e ⊢
   cases h2:evalA cx ⟨a,sz,m⟩ x with
   | none=>simp [h2] at e
   | some y=>simp only [h2] at e; simp only [evalA_sub h h2]; exact e
omit [Kap] in
theorem opA_sub {call:Caller} {a b:Tr Value} (h:Sub a b) {sz:Nat} {m:Mem} {o:Oper} {r:Option Value×Mem} (e:opA cx call ⟨a,sz,m⟩ o=some r):opA cx call ⟨b,sz,m⟩ o=some r:=by
 unfold opA at e ⊢
 cases ho:o.op with
 | move x=>
  simp only [ho] at e ⊢
  cases h1:evalA cx ⟨a,sz,m⟩ x with
  | none=>simp [h1] at e
  | some y=>simp only [h1] at e; simp only [evalA_sub h h1]; exact e
 | assign x=>
  simp only [ho] at e ⊢
  cases h1:evalA cx ⟨a,sz,m⟩ x with
  | none=>simp [h1] at e
  | some y=>simp only [h1] at e; simp only [evalA_sub h h1]; exact e
 | pick c x y=>
  simp only [ho] at e ⊢
  cases h1:evalA cx ⟨a,sz,m⟩ c with
  | none=>simp [h1] at e
  | some q=>
   cases q with
   | bool t=>
    cases t with
    | true=>
     cases h2:evalA cx ⟨a,sz,m⟩ x with
     | none=>simp [h1,h2] at e
     | some v=>simp only [h1,h2] at e; simp only [evalA_sub h h1,evalA_sub h h2]; exact e
    | false=>
     cases h2:evalA cx ⟨a,sz,m⟩ y with
     | none=>simp [h1,h2] at e
     | some v=>simp only [h1,h2] at e; simp only [evalA_sub h h1,evalA_sub h h2]; exact e
   | _=>simp [h1] at e
 | alloc t=>simp only [ho] at e ⊢; exact e
 | box t x=>
  simp only [ho] at e ⊢
  cases h1:evalA cx ⟨a,sz,m⟩ x with
  | none=>simp [h1] at e
  | some y=>simp only [h1] at e; simp only [evalA_sub h h1]; exact e
 | build t ps=>
  simp only [ho] at e ⊢
  cases h1:evalP cx ⟨a,sz,m⟩ ps.toList with
  | none=>simp [h1] at e
  | some y=>simp only [h1] at e; simp only [evalP_sub h h1]; exact e
 | buildSlice t n ps=>
  simp only [ho] at e ⊢
  cases h1:evalP cx ⟨a,sz,m⟩ ps.toList with
  | none=>simp [h1] at e
  | some y=>simp only [h1] at e; simp only [evalP_sub h h1]; exact e
 | load t x=>
  simp only [ho] at e ⊢
  cases h1:evalA cx ⟨a,sz,m⟩ x with
  | none=>simp [h1] at e
  | some y=>simp only [h1] at e; simp only [evalA_sub h h1]; exact e
 | store t x z=>
  simp only [ho] at e ⊢
  cases h1:evalA cx ⟨a,sz,m⟩ x with
  | none=>simp [h1] at e
  | some v1=>
   cases h2:evalA cx ⟨a,sz,m⟩ z with
   | none=>simp [h1,h2] at e
   | some v2=>simp only [h1,h2] at e; simp only [evalA_sub h h1,evalA_sub h h2]; exact e
 | nilCheck x=>
  simp only [ho] at e ⊢
  cases h1:evalA cx ⟨a,sz,m⟩ x with
  | none=>simp [h1] at e
  | some y=>simp only [h1] at e; simp only [evalA_sub h h1]; exact e
 | binOp op t x z u=>
  simp only [ho] at e ⊢
  cases h1:evalA cx ⟨a,sz,m⟩ x with
  | none=>simp [h1] at e
  | some v1=>
   cases h2:evalA cx ⟨a,sz,m⟩ z with
   | none=>simp [h1,h2] at e
   | some v2=>simp only [h1,h2] at e; simp only [evalA_sub h h1,evalA_sub h h2]; exact e
 | unOp op t x=>
  simp only [ho] at e ⊢
  cases h1:evalA cx ⟨a,sz,m⟩ x with
  | none=>simp [h1] at e
  | some y=>simp only [h1] at e; simp only [evalA_sub h h1]; exact e
 | convert p q x=>
  simp only [ho] at e ⊢
  cases h1:evalA cx ⟨a,sz,m⟩ x with
  | none=>simp [h1] at e
  | some y=>simp only [h1] at e; simp only [evalA_sub h h1]; exact e
 | makeInterface t x=>
  simp only [ho] at e ⊢
  cases h1:evalA cx ⟨a,sz,m⟩ x with
  | none=>simp [h1] at e
  | some y=>simp only [h1] at e; simp only [evalA_sub h h1]; exact e
 | makeFunc fn f c=>
  simp only [ho] at e ⊢
  cases h1:evalL cx ⟨a,sz,m⟩ f.toList with
  | none=>simp [h1] at e
  | some v1=>
   cases h2:evalL cx ⟨a,sz,m⟩ c.toList with
   | none=>simp [h1,h2] at e
   | some v2=>simp only [h1,h2] at e; simp only [evalL_sub h h1,evalL_sub h h2]; exact e
 | makeMap t r=>cases r <;> (simp only [ho] at e ⊢; exact e)
 | makeSlice t x z=>
  simp only [ho] at e ⊢
  cases h1:evalA cx ⟨a,sz,m⟩ x with
  | none=>simp [h1] at e
  | some v1=>
   cases h2:evalA cx ⟨a,sz,m⟩ z with
   | none=>simp [h1,h2] at e
   | some v2=>simp only [h1,h2] at e; simp only [evalA_sub h h1,evalA_sub h h2]; exact e
 | slice t x lo hi mx=>
  simp only [ho] at e ⊢
  cases h1:evalA cx ⟨a,sz,m⟩ x with
  | none=>simp [h1] at e
  | some v1=>
   cases h2:evalO cx ⟨a,sz,m⟩ lo with
   | none=>simp [h1,h2] at e
   | some v2=>
    cases h3:evalO cx ⟨a,sz,m⟩ hi with
    | none=>simp [h1,h2,h3] at e
    | some v3=>
     cases h4:evalO cx ⟨a,sz,m⟩ mx with
     | none=>simp [h1,h2,h3,h4] at e
     | some v4=>simp only [h1,h2,h3,h4] at e; simp only [evalA_sub h h1,evalO_sub h h2,evalO_sub h h3,evalO_sub h h4]; exact e
 | fieldAddr t x f=>
  simp only [ho] at e ⊢
  cases h1:evalA cx ⟨a,sz,m⟩ x with
  | none=>simp [h1] at e
  | some y=>simp only [h1] at e; simp only [evalA_sub h h1]; exact e
 | field t x f=>
  simp only [ho] at e ⊢
  cases h1:evalA cx ⟨a,sz,m⟩ x with
  | none=>simp [h1] at e
  | some y=>simp only [h1] at e; simp only [evalA_sub h h1]; exact e
 | indexAddr t x z=>
  simp only [ho] at e ⊢
  cases h1:evalA cx ⟨a,sz,m⟩ x with
  | none=>simp [h1] at e
  | some v1=>
   cases h2:evalA cx ⟨a,sz,m⟩ z with
   | none=>simp [h1,h2] at e
   | some v2=>simp only [h1,h2] at e; simp only [evalA_sub h h1,evalA_sub h h2]; exact e
 | index t x z=>
  simp only [ho] at e ⊢
  cases h1:evalA cx ⟨a,sz,m⟩ x with
  | none=>simp [h1] at e
  | some v1=>
   cases h2:evalA cx ⟨a,sz,m⟩ z with
   | none=>simp [h1,h2] at e
   | some v2=>simp only [h1,h2] at e; simp only [evalA_sub h h1,evalA_sub h h2]; exact e
 | lookup t x z ok=>
  simp only [ho] at e ⊢
  cases h1:evalA cx ⟨a,sz,m⟩ x with
  | none=>simp [h1] at e
  | some v1=>
   cases h2:evalA cx ⟨a,sz,m⟩ z with
   | none=>simp [h1,h2] at e
   | some v2=>simp only [h1,h2] at e; simp only [evalA_sub h h1,evalA_sub h h2]; exact e
 | mapUpdate t x y z=>
  simp only [ho] at e ⊢
  cases h1:evalA cx ⟨a,sz,m⟩ x with
  | none=>simp [h1] at e
  | some v1=>
   cases h2:evalA cx ⟨a,sz,m⟩ y with
   | none=>simp [h1,h2] at e
   | some v2=>
    cases h3:evalA cx ⟨a,sz,m⟩ z with
    | none=>simp [h1,h2,h3] at e
    | some v3=>simp only [h1,h2,h3] at e; simp only [evalA_sub h h1,evalA_sub h h2,evalA_sub h h3]; exact e
 | insert t x y z=>
  simp only [ho] at e ⊢
  cases h1:evalA cx ⟨a,sz,m⟩ x with
  | none=>simp [h1] at e
  | some v1=>
   cases h2:evalA cx ⟨a,sz,m⟩ y with
   | none=>simp [h1,h2] at e
   | some v2=>
    cases h3:evalA cx ⟨a,sz,m⟩ z with
    | none=>simp [h1,h2,h3] at e
    | some v3=>simp only [h1,h2,h3] at e; simp only [evalA_sub h h1,evalA_sub h h2,evalA_sub h h3]; exact e
 | mapEntry t x z=>
  simp only [ho] at e ⊢
  cases h1:evalA cx ⟨a,sz,m⟩ x with
  | none=>simp [h1] at e
  | some v1=>
   cases h2:evalA cx ⟨a,sz,m⟩ z with
   | none=>simp [h1,h2] at e
   | some v2=>simp only [h1,h2] at e; simp only [evalA_sub h h1,evalA_sub h h2]; exact e
 | entryStore t x y z=>
  simp only [ho] at e ⊢
  cases h1:evalA cx ⟨a,sz,m⟩ x with
  | none=>simp [h1] at e
  | some v1=>
   cases h2:evalA cx ⟨a,sz,m⟩ y with
   | none=>simp [h1,h2] at e
   | some v2=>
    cases h3:evalA cx ⟨a,sz,m⟩ z with
    | none=>simp [h1,h2,h3] at e
    | some v3=>simp only [h1,h2,h3] at e; simp only [evalA_sub h h1,evalA_sub h h2,evalA_sub h h3]; exact e
 | typeAssert x t u ok=>
  simp only [ho] at e ⊢
  cases h1:evalA cx ⟨a,sz,m⟩ x with
  | none=>simp [h1] at e
  | some y=>simp only [h1] at e; simp only [evalA_sub h h1]; exact e
 | extract x i=>
  simp only [ho] at e ⊢
  cases h1:evalA cx ⟨a,sz,m⟩ x with
  | none=>simp [h1] at e
  | some y=>simp only [h1] at e; simp only [evalA_sub h h1]; exact e
 | call c=>
  simp only [ho] at e ⊢
  cases h1:callA cx call ⟨a,sz,m⟩ c with
  | none=>rw [h1] at e; cases e
  | some x=>rw [h1] at e; rw [callA_sub h h1]; exact e
 | _=>simp only [ho] at e; cases e
end Go.AX
