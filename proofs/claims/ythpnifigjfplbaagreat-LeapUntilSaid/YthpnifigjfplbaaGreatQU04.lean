import Derived.Test.YthpnifigjfplbaaGreatQU02
import Derived.Calls
import Derived.Orders
import Derived.Laws.CopyRow
import Derived.Laws.Sem
import Derived.Laws.Entries
import Derived.WideLaws
import Derived.Laws.NewFold
namespace Go.AX
namespace Tr
variable {α : Type}
theorem beq_true{a b:Nat}:Nat.beq a b=true↔a=b:=by
 constructor
 .exact gR3
 .rintro rfl;exact Nat.beq_refl a
theorem beq_false{a b:Nat}:Nat.beq a b=false↔a≠b:=by
 constructor
 .intro h e;rw[beq_true.2 e]at h;cases h
 .intro h;cases e:Nat.beq a b with
  | true=>exact absurd (beq_true.1 e) h
  | false=>rfl
theorem get_nil(k:Nat):(nil:Tr α).get k=none:=rfl
theorem jP(v:Option α)(l r:Tr α)(k:Nat):(node v l r).get k=if k=0 then v else if Nat.mod k 2=1 then l.get (Nat.div k 2) else r.get (Nat.pred (Nat.div k 2)):=by
 show @Bool.rec (fun _=>Option α) (@Bool.rec (fun _=>Option α) (r.get (Nat.pred (Nat.div k 2))) (l.get (Nat.div k 2)) (Nat.beq (Nat.mod k 2) 1)) v (Nat.beq k 0)=_;by_cases h0:k=0
 .rw[beq_true.2 h0,if_pos h0]
 .rw[beq_false.2 h0,if_neg h0];by_cases h1:Nat.mod k 2=1
  .rw[beq_true.2 h1,if_pos h1]
  .rw[beq_false.2 h1,if_neg h1]
theorem I9(x v:Option α)(l r:Tr α)(k:Nat):putAt x (node v l r) k=if k=0 then .node x l r else if Nat.mod k 2=1 then .node v (putAt x l (Nat.div k 2)) r else .node v l (putAt x r (Nat.pred (Nat.div k 2))):=by
 show @Bool.rec (fun _=>Tr α) (@Bool.rec (fun _=>Tr α) (.node v l (putAt x r (Nat.pred (Nat.div k 2)))) (.node v (putAt x l (Nat.div k 2)) r) (Nat.beq (Nat.mod k 2) 1)) (.node x l r) (Nat.beq k 0)=_;by_cases h0:k=0
 .rw[beq_true.2 h0,if_pos h0]
 .rw[beq_false.2 h0,if_neg h0];by_cases h1:Nat.mod k 2=1
  .rw[beq_true.2 h1,if_pos h1]
  .rw[beq_false.2 h1,if_neg h1]
theorem KU(x:Option α)(f k:Nat):path x (f+1) k=if k=0 then .node x .nil .nil else if Nat.mod k 2=1 then .node none (path x f (Nat.div k 2)) .nil else .node none .nil (path x f (Nat.pred (Nat.div k 2))):=by
 show @Bool.rec (fun _=>Tr α) (@Bool.rec (fun _=>Tr α) (.node none .nil (path x f (Nat.pred (Nat.div k 2)))) (.node none (path x f (Nat.div k 2)) .nil) (Nat.beq (Nat.mod k 2) 1)) (.node x .nil .nil) (Nat.beq k 0)=_;by_cases h0:k=0
 .rw[beq_true.2 h0,if_pos h0]
 .rw[beq_false.2 h0,if_neg h0];by_cases h1:Nat.mod k 2=1
  .rw[beq_true.2 h1,if_pos h1]
  .rw[beq_false.2 h1,if_neg h1]
theorem PF{k f:Nat}(_:k≠0)(h:k<=f+1):Nat.div k 2<=f:=by
 show k / 2<=f;omega
theorem HA{k f:Nat}(_:k≠0)(h:k<=f+1):Nat.pred (Nat.div k 2)<=f:=by
 show k / 2-1<=f;omega
theorem zB{j k:Nat}(hj:Nat.mod j 2=1)(hk:Nat.mod k 2=1):Nat.div j 2=Nat.div k 2↔j=k:=by
 show j / 2=k / 2↔j=k;have a:j % 2=1:=hj;have b:k % 2=1:=hk;omega
theorem xe{j k:Nat}(j0:j≠0)(k0:k≠0)(hj:Nat.mod j 2≠1)(hk:Nat.mod k 2≠1):Nat.pred (Nat.div j 2)=Nat.pred (Nat.div k 2)↔j=k:=by
 show j / 2-1=k / 2-1↔j=k;have a:j % 2≠1:=hj;have b:k % 2≠1:=hk;omega
theorem MH(x:Option α):∀(f k j:Nat),k<=f->(path x f k).get j=if j=k then x else none:=by
 intro f
 induction f with
 | zero=>
  intro k j hk;obtain rfl:k=0:=by omega
  show (node x nil nil).get j=_;rw[jP];by_cases hj:j=0
  .rw[if_pos hj,if_pos hj]
  .rw[if_neg hj,if_neg hj];simp only[get_nil,ite_self]
 | succ f ih=>
  intro k j hk;rw[KU];by_cases k0:k=0
  .rw[if_pos k0,jP,k0];by_cases hj:j=0
   .rw[if_pos hj,if_pos hj]
   .rw[if_neg hj,if_neg hj];simp only[get_nil,ite_self]
  .rw[if_neg k0];by_cases ko:Nat.mod k 2=1
   .rw[if_pos ko,jP];by_cases hj:j=0
    .rw[if_pos hj,if_neg (by omega)]
    .rw[if_neg hj];by_cases ho:Nat.mod j 2=1
     .rw[if_pos ho,ih _ _ (PF k0 hk)];by_cases h:j=k
      .rw[if_pos h,if_pos ((zB ho ko).2 h)]
      .rw[if_neg h,if_neg (fun e=>h ((zB ho ko).1 e))]
     .rw[if_neg ho,if_neg (fun(e:j=k)=>ho (e▸ko))];rfl
   .rw[if_neg ko,jP];by_cases hj:j=0
    .rw[if_pos hj,if_neg (by omega)]
    .rw[if_neg hj];by_cases ho:Nat.mod j 2=1
     .rw[if_pos ho,if_neg (fun(e:j=k)=>ko (e▸ho))];rfl
     .rw[if_neg ho,ih _ _ (HA k0 hk)];by_cases h:j=k
      .rw[if_pos h,if_pos ((xe hj k0 ho ko).2 h)]
      .rw[if_neg h,if_neg (fun e=>h ((xe hj k0 ho ko).1 e))]
theorem D8(x:Option α):∀(t:Tr α) (k j:Nat),(putAt x t k).get j=if j=k then x else t.get j:=by
 intro t
 induction t with
 | nil=>intro k j;exact MH x k k j (gQ4 k)
 | node v l r ihl ihr=>
  intro k j;rw[I9,jP v l r j];by_cases k0:k=0
  .rw[if_pos k0,jP,k0];by_cases hj:j=0
   .rw[if_pos hj,if_pos hj]
   .rw[if_neg hj,if_neg hj,if_neg hj]
  .rw[if_neg k0];by_cases ko:Nat.mod k 2=1
   .rw[if_pos ko,jP];by_cases hj:j=0
    .rw[if_pos hj,if_neg (by omega),if_pos hj]
    .rw[if_neg hj,if_neg hj];by_cases ho:Nat.mod j 2=1
     .rw[if_pos ho,if_pos ho,ihl];by_cases h:j=k
      .rw[if_pos h,if_pos ((zB ho ko).2 h)]
      .rw[if_neg h,if_neg (fun e=>h ((zB ho ko).1 e))]
     .rw[if_neg ho,if_neg ho,if_neg (fun(e:j=k)=>ho (e▸ko))]
   .rw[if_neg ko,jP];by_cases hj:j=0
    .rw[if_pos hj,if_neg (by omega),if_pos hj]
    .rw[if_neg hj,if_neg hj];by_cases ho:Nat.mod j 2=1
     .rw[if_pos ho,if_pos ho,if_neg (fun(e:j=k)=>ko (e▸ho))]
     .rw[if_neg ho,if_neg ho,ihr];by_cases h:j=k
      .rw[if_pos h,if_pos ((xe hj k0 ho ko).2 h)]
      .rw[if_neg h,if_neg (fun e=>h ((xe hj k0 ho ko).1 e))]
theorem get_put(t:Tr α)(k j:Nat)(x:α):(t.put k x).get j=if j=k then some x else t.get j:=D8 _ t k j
theorem get_del(t:Tr α)(k j:Nat):(t.del k).get j=if j=k then none else t.get j:=D8 _ t k j
theorem get_tab(f:Nat->Option α):∀(d a m k:Nat) (x:α),(tab f d a m).get k=some x->f (a+m*k)=some x:=by
 intro d
 induction d with
 | zero=>intro a m k x h;simp[tab,get]at h
 | succ d ih=>
  intro a m k x h;by_cases h0:k=0
  .subst h0;rw[tab,jP,if_pos rfl]at h;simpa using h
  .by_cases ho:Nat.mod k 2=1
   .rw[tab,jP,if_neg h0,if_pos ho]at h;have:=ih _ _ _ _ h;rw[<-this];congr 1;show a+m*k=a+m+2*m*(k / 2);have o:k % 2=1:=ho;have e:k=2*(k / 2)+1:=by omega
    generalize k / 2=q at *;subst e;rw[Nat.mul_add,Nat.mul_one,Nat.mul_comm 2 m,Nat.mul_assoc];omega
   .rw[tab,jP,if_neg h0,if_neg ho]at h;have:=ih _ _ _ _ h;rw[<-this];congr 1;show a+m*k=a+2*m+2*m*(k / 2-1);have o:k % 2≠1:=ho;have e:k=2*(k / 2-1)+2:=by omega
    generalize k / 2-1=q at *;subst e;rw[Nat.mul_add,Nat.mul_comm 2 m,Nat.mul_assoc];omega
end Tr
structure CxOk (P:Program) (cx:Cx):Prop where
 ty:∀t i,cx.ty.get t=some i->P.info? t=some i
 un:∀t d,cx.un.get t=some d->P.underlying t=some d
 fn:∀f x,cx.fn.get f=some x->P.funcs[f]? = some x/\(x.name == "runtime.NumGoroutine")=false
 nh:∀t,cx.nh.get t=some true->P.stoodInHeld t=false
 gl:cx.globals=P.globals.size
theorem CxOk.of(P:Program)(ov:Tr (List Value->Mem->Option (Value×Mem)):=.nil):CxOk P (Cx.of P ov) where
 ty t i h:=by simpa using Tr.get_tab _ _ _ _ _ _ h
 un t i h:=by simpa using Tr.get_tab _ _ _ _ _ _ h
 fn t i h:=by
  have:=Tr.get_tab _ _ _ _ _ _ h;simp only[Nat.zero_add,Nat.one_mul]at this;split at this
  .rename_i x hx;split at this
   .cases this
   .rename_i hn;cases this;exact⟨hx,hn⟩
  .cases this
 nh t h:=by
  have:=Tr.get_tab _ _ _ _ _ _ h;simpa using this
 gl:=rfl
structure Loc where
 rb:Nat
 ro:Nat
 n:Nat
 re:Nat
 s:Nat
abbrev cV:=Nat->Option Loc
def CapR(l:Loc)(off cap cap':Nat):Prop:=
 cap'=cap∨(0<l.s/\off+cap*l.s=l.n/\cap<=cap'/\off+cap'*l.s<=l.re)
inductive VR (φ : cV):Value->Value->Prop
 | bool (b:Bool):VR φ (.bool b) (.bool b)
 | int (k:IntKind) (n:Int):VR φ (.int k n) (.int k n)
 | string (s:ByteArray):VR φ (.string s) (.string s)
 | ptr0:VR φ (.pointer none) (.pointer none)
 | ptr (b off:Nat) (l:Loc) (h:φ b=some l):VR φ (.pointer (some ⟨b,off,none⟩)) (.pointer (some ⟨l.rb,l.ro+off,none⟩))
 | sl0 (len cap:Nat):VR φ (.slice none len cap) (.slice none len cap)
 | sl (b off len cap cap':Nat) (l:Loc) (h:φ b=some l) (hc:CapR l off cap cap'):VR φ (.slice (some ⟨b,off,none⟩) len cap) (.slice (some ⟨l.rb,l.ro+off,none⟩) len cap')
 | slE (a a':Addr):VR φ (.slice (some a) 0 0) (.slice (some a') 0 0)
 | map0:VR φ (.map none) (.map none)
 | map (r:Nat) (l:Loc) (h:φ r=some l):VR φ (.map (some r)) (.map (some l.rb))
 | func (fn:Fn) (f f' c c':Array Value) (hf:f.toList.length=f'.toList.length) (hfv:∀(i:Nat) (v v':Value),f.toList[i]? = some v->f'.toList[i]? = some v'->VR φ v v')
   (hc:c.toList.length=c'.toList.length) (hcv:∀(i:Nat) (v v':Value),c.toList[i]? = some v->c'.toList[i]? = some v'->VR φ v v'):VR φ (.func fn f c) (.func fn f' c')
 | nilFunc:VR φ .nilFunc .nilFunc
 | iface (t:TypeId) (v v':Value) (h:VR φ v v'):VR φ (.iface t v) (.iface t v')
 | nilIface:VR φ .nilIface .nilIface
 | agg (c c':Array Value) (hc:c.toList.length=c'.toList.length) (hcv:∀(i:Nat) (v v':Value),c.toList[i]? = some v->c'.toList[i]? = some v'->VR φ v v'):VR φ (.agg c) (.agg c')
 | tuple (c c':Array Value) (hc:c.toList.length=c'.toList.length) (hcv:∀(i:Nat) (v v':Value),c.toList[i]? = some v->c'.toList[i]? = some v'->VR φ v v'):VR φ (.tuple c) (.tuple c')
def LR(φ : cV)(l l':List Value):Prop:=l.length=l'.length/\∀(i:Nat) (v v':Value),l[i]? = some v->l'[i]? = some v'->VR φ v v'
def Ext(φ φ':cV):Prop:=∀b l,φ b=some l->φ' b=some l
theorem VR.mono{φ φ':cV}(h:Ext φ φ'){v v':Value}(hv:VR φ v v'):VR φ' v v':=by
 induction hv with
 | bool b=>exact .bool b
 | int k n=>exact .int k n
 | string s=>exact .string s
 | ptr0=>exact .ptr0
 | ptr b off l hb=>exact .ptr b off l (h _ _ hb)
 | sl0 len cap=>exact .sl0 len cap
 | sl b off len cap cap' l hb hc=>exact .sl b off len cap cap' l (h _ _ hb) hc
 | slE a a'=>exact .slE a a'
 | map0=>exact .map0
 | map r l hb=>exact .map r l (h _ _ hb)
 | func fn f f' c c' hf _ hc _ ih1 ih2=>exact .func fn f f' c c' hf ih1 hc ih2
 | nilFunc=>exact .nilFunc
 | iface t v v' _ ih=>exact .iface t v v' ih
 | nilIface=>exact .nilIface
 | agg c c' hc _ ih=>exact .agg c c' hc ih
 | tuple c c' hc _ ih=>exact .tuple c c' hc ih
theorem LR.nil(φ : cV):LR φ [] []:=⟨rfl,fun i v v' h=>by simp at h⟩
theorem LR.cons{φ : cV}{v v':Value}{l l':List Value}(h:VR φ v v')(hl:LR φ l l'):LR φ (v::l) (v'::l'):=by
 refine⟨by simp[hl.1],fun i a a' h1 h2=>?_⟩;cases i with
 | zero=>simp at h1 h2;subst h1;subst h2;exact h
 | succ i=>simp at h1 h2;exact hl.2 i a a' h1 h2
theorem LR.uncons{φ : cV}{v:Value}{l:List Value}{l':List Value}(h:LR φ (v::l) l'):∃v' r',l'=v'::r'/\VR φ v v'/\LR φ l r':=by
 cases l' with
 | nil=>have:=h.1;simp at this
 | cons v' r'=>
  refine⟨v',r',rfl,h.2 0 v v' rfl rfl,by simpa using h.1,fun i a a' h1 h2=>h.2 (i+1) a a' (by simpa using h1) (by simpa using h2)⟩
theorem LR.nil_iff{φ : cV}{l':List Value}(h:LR φ [] l'):l'=[]:=by
 have:=h.1;exact List.length_eq_zero_iff.1 this.symm
theorem LR.append{φ : cV}{a a' b b':List Value}(h:LR φ a a')(k:LR φ b b'):LR φ (a++b) (a'++b'):=by
 refine⟨by simp[h.1,k.1],fun i v v' h1 h2=>?_⟩;by_cases hi:i<a.length
 .rw[List.getElem?_append_left hi]at h1;rw[List.getElem?_append_left (by rw[<-h.1];exact hi)]at h2;exact h.2 i v v' h1 h2
 .rw[List.getElem?_append_right (by omega)]at h1;rw[List.getElem?_append_right (by rw[<-h.1];omega)]at h2;rw[<-h.1]at h2;exact k.2 _ v v' h1 h2
theorem LR.take{φ : cV}{a a':List Value}(h:LR φ a a')(n:Nat):LR φ (a.take n) (a'.take n):=by
 refine⟨by simp[h.1],fun i v v' h1 h2=>?_⟩;rw[List.getElem?_take]at h1 h2;split at h1
 .exact h.2 i v v' h1 (by simpa [*]using h2)
 .cases h1
theorem LR.drop{φ : cV}{a a':List Value}(h:LR φ a a')(n:Nat):LR φ (a.drop n) (a'.drop n):=by
 refine⟨by simp[h.1],fun i v v' h1 h2=>?_⟩;rw[List.getElem?_drop]at h1 h2;exact h.2 _ v v' h1 h2
theorem LR.get{φ : cV}{a a':List Value}(h:LR φ a a'){i:Nat}{v:Value}(hi:a[i]? = some v):∃v',a'[i]? = some v'/\VR φ v v':=by
 have hlt:i<a.length:=(gQ1 hi).1;have hlt':i<a'.length:=by rw[<-h.1];exact hlt
 exact⟨a'[i],gQ2 hlt',h.2 i v _ hi (gQ2 hlt')⟩
theorem VR.plain1(φ : cV){v:Value}(h:plain1 v=true):VR φ v v:=by
 cases v with
 | bool b=>exact .bool b
 | int k n=>exact .int k n
 | string s=>exact .string s
 | pointer a=>cases a with
  | none=>exact .ptr0
  | some a=>simp[AX.plain1]at h
 | slice a n c=>cases a with
  | none=>exact .sl0 n c
  | some a=>simp[AX.plain1]at h
 | map r=>cases r with
  | none=>exact .map0
  | some a=>simp[AX.plain1]at h
 | nilFunc=>exact .nilFunc
 | nilIface=>exact .nilIface
 | _=>simp[AX.plain1]at h
theorem LR.plain(φ : cV){l:List Value}(h:l.all AX.plain1=true):LR φ l l:=
 ⟨rfl,fun i v v' h1 h2=>by
  rw[h1]at h2;cases h2;exact VR.plain1 φ (List.all_eq_true.1 h v (gQ3 h1))⟩
theorem VR.plain(φ : cV){v:Value}(h:nf v=true):VR φ v v:=by
 cases v with
 | agg c=>exact .agg c c rfl (LR.plain φ (by simpa [nf]using h)).2
 | tuple c=>exact .tuple c c rfl (LR.plain φ (by simpa [nf]using h)).2
 | iface t v=>exact .iface t v v (VR.plain1 φ (by simpa [nf]using h))
 | func fn f c=>
  have h':f.toList=[]/\c.toList=[]:=by simpa [nf]using h
  refine .func fn f f c c rfl ?_ rfl ?_
  .intro i v v' h1;simp[h'.1]at h1
  .intro i v v' h1;simp[h'.2]at h1
 | _=>exact VR.plain1 φ (by simpa [nf]using h)
theorem VR.cells{φ : cV}{v v':Value}(h:VR φ v v'):LR φ (bQ v) (bQ v'):=by
 cases h with
 | agg c c' hc hcv=>exact⟨hc,hcv⟩
 | bool b=>exact(LR.nil φ).cons (.bool b)
 | int k n=>exact(LR.nil φ).cons (.int k n)
 | string s=>exact(LR.nil φ).cons (.string s)
 | ptr0=>exact(LR.nil φ).cons .ptr0
 | ptr b off l hb=>exact(LR.nil φ).cons (.ptr b off l hb)
 | sl0 len cap=>exact(LR.nil φ).cons (.sl0 len cap)
 | sl b off len cap cap' l hb hc=>exact(LR.nil φ).cons (.sl b off len cap cap' l hb hc)
 | slE a a'=>exact(LR.nil φ).cons (.slE a a')
 | map0=>exact(LR.nil φ).cons .map0
 | map r l hb=>exact(LR.nil φ).cons (.map r l hb)
 | func fn f f' c c' a b c2 d=>exact(LR.nil φ).cons (.func fn f f' c c' a b c2 d)
 | nilFunc=>exact(LR.nil φ).cons .nilFunc
 | iface t v v' hv=>exact(LR.nil φ).cons (.iface t v v' hv)
 | nilIface=>exact(LR.nil φ).cons .nilIface
 | tuple c c' hc hcv=>exact(LR.nil φ).cons (.tuple c c' hc hcv)
theorem eK(v:Value):v.cells.toList=bQ v:=by cases v<;>rfl
theorem VR.one1{φ : cV}{v v':Value}(h:VR φ v v'):one1 v'=one1 v:=by cases h<;>rfl
theorem LR.one1{φ : cV}{l l':List Value}(h:LR φ l l')(ho:l.all AX.one1=true):∀v∈l',v.oneCell'=true:=by
 intro v hv;obtain⟨i,hi⟩:=List.getElem?_of_mem hv;have hlt:i<l.length:=by rw[h.1];exact(gQ1 hi).1
 have h1:=h.2 i _ v (gQ2 hlt) hi;have h2:AX.one1 l[i]=true:=List.all_eq_true.1 ho _ (List.getElem_mem hlt);rw[<-h1.one1]at h2;cases v<;>first|rfl|(simp[AX.one1]at h2)
def ER(φ : cV)(es es':List MapEntry):Prop:=
 es.length=es'.length/\∀(i:Nat) (e e':MapEntry),es[i]? = some e->es'[i]? = some e'->VR φ e.key e'.key/\VR φ e.val e'.val/\e.born=e'.born
def OR(P:Program)(φ : cV)(w:World)(l:Loc):AObj->Prop
 | .cells c n e loose=>∃c':Array Value,w.heap[l.rb]? = some (.cells c' e (0,0))/\l.n=n/\n<=l.re/\l.ro+l.re<=c'.size/\
   (∀(i:Nat),i<n->∃v':Value,c'[l.ro+i]? = some v'/\∀v,c.get i=some v->VR φ v v')/\
   (loose=false->l.s=0/\l.re=n)/\(loose=true->0<l.s/\∀i,P.info? e=some i->i.size=l.s)
 | .map es clock=>∃es':Array MapEntry,w.heap[l.rb]? = some (.map es' clock)/\ER φ es es'.toList
 | .iter s pos=>w.heap[l.rb]? = some (.stringIter s pos)
 | .ro c n=>∃(c':Array Value) (e:TypeId) (fr:Nat×Nat),w.heap[l.rb]? = some (.cells c' e fr)/\l.n=n/\l.s=0/\l.ro+n<=c'.size/\
   ∀(i:Nat) (v:Value),i<n->c.get i=some v->∃v',c'[l.ro+i]? = some v'/\VR φ v v'
theorem lP{φ : cV}{c:Tr Value}{c':Array Value}{i j:Nat}{v v':Value}(h1:c.get i=some v)(h2:c'[j]? = some v')(h3:VR φ v v'):∃v':Value,c'[j]? = some v'/\∀v,c.get i=some v->VR φ v v':=
 ⟨v',h2,fun u hu=>by rw[h1]at hu;cases hu;exact h3⟩
structure R0 (P:Program) (φ : cV) (m:Mem) (w:World):Prop where
 obj:∀b o,m.hp.get b=some o->∃l,φ b=some l/\OR P φ w l o
 inj:∀b1 b2 o1 o2 l1 l2,m.hp.get b1=some o1->m.hp.get b2=some o2->φ b1=some l1->φ b2=some l2->l1.rb=l2.rb->b1=b2
 glob:∀g,g<=P.globals.size->∃l,φ g=some l/\l.rb=g/\l.ro=0
def Fresh(φ : cV)(n:Nat):Prop:=∀b,n<=b->φ b=none
def Owned(φ : cV)(m:Mem)(r:Nat):Prop:=∃b o l,m.fl<=b/\m.hp.get b=some o/\φ b=some l/\l.rb=r
class Kap where
 k:Prop
variable [Kap]
structure Stp (φ : cV) (m:Mem) (w:World) (φ':cV) (m':Mem) (w':World):Prop where
 ext:Ext φ φ'
 own:∀r,Owned φ' m' r->w.heap.size<=r∨Owned φ m r
 same:∀r,r<w.heap.size->¬Owned φ m r->w'.heap[r]? = w.heap[r]?
 size:w.heap.size<=w'.heap.size
 os:w'.os=w.os
 tape:w'.tape=w.tape
 output:w'.output=w.output
 nx:m.nx<=m'.nx
 fl:m'.fl=m.fl
 low:∀b,b<m.fl->m'.hp.get b=m.hp.get b
 old:∀b,b<m.nx->m.hp.get b=none->m'.hp.get b=none
 keep:∀b,b<m.nx->φ' b = φ b
 drawn:Kap.k->w.drawn<=w'.drawn
theorem Stp.refl(φ : cV)(m:Mem)(w:World):Stp φ m w φ m w:=
 ⟨fun _ _ h=>h,fun _ h=>.inr h,fun _ _ _=>rfl,gQ4 _,rfl,rfl,rfl,gQ4 _,rfl,fun _ _=>rfl,fun _ _ h=>h,fun _ _=>rfl,fun _=>gQ4 _⟩
theorem Stp.trans{φ φ1 φ2:cV}{m m1 m2:Mem}{w w1 w2:World}(h:Stp φ m w φ1 m1 w1)(k:Stp φ1 m1 w1 φ2 m2 w2):Stp φ m w φ2 m2 w2 where
 ext b l hb:=k.ext b l (h.ext b l hb)
 own r hr:=by
  rcases k.own r hr with h1|h1
  .exact .inl (Nat.le_trans h.size h1)
  .exact h.own r h1
 same r hr hn:=by
  rw[k.same r (Nat.lt_of_lt_of_le hr h.size) (fun ho=>?_),h.same r hr hn];rcases h.own r ho with h1|h1
  .omega
  .exact hn h1
 size:=Nat.le_trans h.size k.size
 os:=k.os.trans h.os
 tape:=k.tape.trans h.tape
 output:=k.output.trans h.output
 nx:=Nat.le_trans h.nx k.nx
 fl:=k.fl.trans h.fl
 low b hb:=(k.low b (by rw[h.fl];exact hb)).trans (h.low b hb)
 old b hb hn:=k.old b (Nat.lt_of_lt_of_le hb h.nx) (h.old b hb hn)
 keep b hb:=(k.keep b (Nat.lt_of_lt_of_le hb h.nx)).trans (h.keep b hb)
 drawn hk:=Nat.le_trans (h.drawn hk) (k.drawn hk)
omit [Kap]in
theorem R0.world{P:Program}{φ : cV}{m:Mem}{w w':World}(h:R0 P φ m w)(hw:w'.heap=w.heap):R0 P φ m w' where
 obj b o hb:=by
  obtain⟨l,hl,ho⟩:=h.obj b o hb;refine⟨l,hl,?_⟩;cases o<;>simpa [OR,hw]using ho
 inj:=h.inj
 glob:=h.glob
end Go.AX
namespace Go.AX
variable [Kap]
variable {cx:Cx}
def xO(f g:dB):Prop:=∀k a m r,f k a m=some r->g k a m=some r
omit [Kap]in
theorem IL{f g:dB}(h:xO f g){st:St}{c:Call}{r:Value×Mem}(e:gq cx f st c=some r):gq cx g st c=some r:=by
 unfold gq at e ⊢;split at e
 .cases e
 .split at e
  .exact e
  .split at e
   .exact h _ _ _ _ e
   .cases e
  .split at e
   .split at e
    .exact h _ _ _ _ e
    .cases e
   .cases e
omit [Kap]in
theorem nk{f g:dB}(h:xO f g){st:St}{o:Oper}{r:Option Value×Mem}(e:dh cx f st o=some r):dh cx g st o=some r:=by
 unfold dh at e ⊢;cases ho:o.op with
 | call c=>
  simp only[ho]at e ⊢;cases hc:gq cx f st c with
  | none=>rw[hc]at e;cases e
  | some x=>rw[hc]at e;rw[IL h hc];exact e
 | makeMap t r=>cases r<;>(simp only[ho]at e ⊢;exact e)
 | _=>simp only[ho]at e ⊢;exact e
omit [Kap]in
theorem rf{f g:dB}(h:xO f g){ops:List Oper}:∀{rest:List Oper} {st st':St},gD cx f ops rest st=some st'->gD cx g ops rest st=some st'
 | [],st,st',e=>e
 | o::r,st,st',e=>by
  unfold gD at e ⊢;split at e
  .rename_i hw
   try simp only[hw]
   split at e
   .rename_i h1;simp only[nk h h1];split at e
    .rename_i h2;(try simp only[h2]);exact rf h e
    .cases e
   .cases e
  .rename_i hw
   try simp only[hw]
   split at e
   .rename_i h2;(try simp only[h2]);exact rf h e
   .cases e
  .cases e
omit [Kap]in
theorem EQ{f g:dB}(h:xO f g){o:Oper}{i base:Nat}{d:Dr}{st:St}{r:Option Value×Mem×Dr}(e:lL cx f o i base d st=some r):lL cx g o i base d st=some r:=by
 unfold lL at e ⊢;split at e
 .rename_i h1;simp only[nk h h1];exact e
 .cases e
omit [Kap]in
theorem Br{f g:dB}(h:xO f g){ops:List Oper}{o:Oper}{r:List Oper}{s:Nat}{q:List Nat}{i base:Nat}{d:Dr}{st:St}{x:Option Value×Mem×Dr}(e:gF cx f ops o r s q i base d st=some x):gF cx g ops o r s q i base d st=some x:=by
 unfold gF at e ⊢;split at e
 .cases e
 .split at e
  .split at e
   .split at e
    .split at e
     .rename_i h1;simp only[nk h h1];exact e
     .cases e
    .cases e
   .split at e
    .rename_i h1;simp only[nk h h1];exact e
    .cases e
  .split at e
   .rename_i h1;simp only[nk h h1];exact e
   .cases e
omit [Kap]in
theorem ET{f g:dB}(h:xO f g){o:Oper}{s i:Nat}{d:Dr}{st:St}{x:Option Value×Mem×Dr}(e:kJ cx f o s i d st=some x):kJ cx g o s i d st=some x:=by
 unfold kJ at e ⊢;split at e
 .split at e
  .rename_i h1;simp only[nk h h1];exact e
  .cases e
 .cases e
omit [Kap]in
theorem C0{f g:dB}(h:xO f g){o:Oper}{d:Dr}{st:St}{x:Option Value×Mem×Dr}(e:kj cx f o d st=some x):kj cx g o d st=some x:=by
 unfold kj at e ⊢;split at e
 .rename_i h1;simp only[nk h h1];exact e
 .cases e
omit [Kap]in
theorem zQ{f g:dB}(h:xO f g){ops:List Oper}{o:Oper}{r:List Oper}{s:Nat}{q:List Nat}{i base:Nat}{d:Dr}{st:St}{x:Option Value×Mem×Dr}(e:fE cx f ops o r s q i base d st=some x):fE cx g ops o r s q i base d st=some x:=by
 unfold fE at e ⊢;split at e
 .split at e
  .exact EQ h e
  .exact Br h e
 .exact ET h e
 .exact C0 h e
omit [Kap]in
theorem pY{f g:dB}(h:xO f g){ops:List Oper}{base:Nat}:∀{rest:List Oper} {ss:List Nat} {i:Nat} {d:Dr} {st st':St},eJ cx f ops base rest ss i d st=some st'->eJ cx g ops base rest ss i d st=some st'
 | [],ss,i,d,st,st',e=>by unfold eJ at e ⊢;exact e
 | o::r,[],i,d,st,st',e=>by unfold eJ at e;cases e
 | o::r,s::q,i,d,st,st',e=>by
  unfold eJ at e ⊢;split at e
  .rename_i hw
   try simp only[hw]
   split at e
   .rename_i h1;simp only[zQ h h1];split at e
    .rename_i h2;(try simp only[h2]);exact pY h e
    .cases e
   .cases e
  .rename_i hw
   try simp only[hw]
   split at e
   .rename_i h2;(try simp only[h2]);exact pY h e
   .cases e
  .cases e
def HT(f g:Code->St->Option (Ex×St)):Prop:=∀c st r,f c st=some r->g c st=some r
omit [Kap]in
theorem EU{f g:Code->St->Option (Ex×St)}(h:HT f g):xO (kL cx f) (kL cx g):=by
 intro k a m r e;unfold kL at e ⊢;split at e
 .split at e
  .split at e
   .rename_i hle
    try rw[hle]
    try simp only
    split at e
    .rename_i h1;simp only[h _ _ _ h1];exact e
    .rename_i h1;simp only[h _ _ _ h1];exact e
    .cases e
   .cases e
  .cases e
 .cases e
omit [Kap]in
theorem zR{f g:Code->St->Option (Ex×St)}(h:HT f g):xO (dU cx f) (dU cx g):=by
 intro k a m r e;unfold dU at e ⊢;split at e
 .exact e
 .exact EU h _ _ _ _ e
omit [Kap]in
theorem J9{f g:Code->St->Option (Ex×St)}(h:HT f g):HT (step cx f) (step cx g):=by
 intro c st r e;have hc:=zR (cx:=cx) h;cases c with
 | skip=>exact e
 | label l=>exact e
 | exit id=>exact e
 | ret=>exact e
 | region id ops draw=>
  cases draw with
  | false=>
   simp only[step]at e ⊢;split at e
   .rename_i h1;rw[rf hc h1];exact e
   .cases e
  | true=>
   simp only[step]at e ⊢;split at e
   .split at e
    .rename_i h1;simp only[pY hc h1];exact e
    .cases e
   .cases e
 | seq x y=>
  simp only[step]at e ⊢;split at e
  .rename_i h1;rw[h _ _ _ h1];exact h _ _ _ e
  .rename_i hne;rw[h _ _ _ e];split
   .rename_i heq;cases heq;exact(hne _ e).elim
   .rfl
 | cond o x y=>
  simp only[step]at e ⊢;split at e
  .exact h _ _ _ e
  .exact h _ _ _ e
  .cases e
 | block id x=>
  simp only[step]at e ⊢;split at e
  .rename_i h1;simp only[h _ _ _ h1];exact e
  .rename_i hne;rw[h _ _ _ e];split
   .rename_i heq;cases heq;exact(hne _ _ e).elim
   .rfl
 | loop x=>
  simp only[step]at e ⊢;split at e
  .rename_i h1;rw[h _ _ _ h1];exact h _ _ _ e
  .rename_i hne;rw[h _ _ _ e];split
   .rename_i heq;cases heq;exact(hne _ e).elim
   .rfl
 | rangeFunc _ _ _ _=>simp[step]at e
 | goto _=>simp[step]at e
 | scope _=>simp[step]at e
 | refuse _=>simp[step]at e
omit [Kap]in
theorem DN:∀n,HT (eI cx n) (eI cx (n+1))
 | 0=>fun c st r e=>by cases e
 | n+1=>J9 (DN n)
omit [Kap]in
theorem nr{n n':Nat}(h:n<=n'):HT (eI cx n) (eI cx n'):=by
 induction h with
 | refl=>exact fun _ _ _ e=>e
 | step _ ih=>exact fun c st r e=>DN _ c st r (ih c st r e)
omit [Kap]in
theorem nP{n n':Nat}(h:n<=n'):xO (dU cx (eI cx n)) (dU cx (eI cx n')):=zR (nr h)
def Sub(a b:Tr Value):Prop:=∀i v,a.get i=some v->b.get i=some v
omit [Kap]in
theorem Sub.put{a b:Tr Value}(h:Sub a b)(d:Nat)(v:Value):Sub (a.put d v) (b.put d v):=by
 intro i x e;rw[Tr.get_put]at e ⊢;split at e
 .rename_i hi;rw[if_pos hi];exact e
 .rename_i hi;rw[if_neg hi];exact h i x e
omit [Kap]in
theorem Sub.del{a b:Tr Value}(h:Sub a b)(d:Nat):Sub (a.del d) (b.del d):=by
 intro i x e;rw[Tr.get_del]at e ⊢;split at e
 .rename_i hi;rw[if_pos hi];exact e
 .rename_i hi;rw[if_neg hi];exact h i x e
omit [Kap]in
theorem Sub.put_of{a b:Tr Value}(h:Sub a b){d:Nat}{v:Value}(e:b.get d=some v):Sub (a.put d v) b:=by
 intro i x k;rw[Tr.get_put]at k;split at k
 .rename_i hi;subst hi;rw[e];exact k
 .exact h i x k
omit [Kap]in
theorem da{a b:Tr Value}(h:Sub a b){sz:Nat}{m:Mem}{x:Operand}{v:Value}(e:cU cx ⟨a,sz,m⟩ x=some v):cU cx ⟨b,sz,m⟩ x=some v:=by
 cases x with
 | tmp t=>exact h _ _ e
 | const c=>exact e
 | global g=>exact e
 | func f=>exact e
omit [Kap]in
theorem rA{a b:Tr Value}(h:Sub a b){sz:Nat}{m:Mem}:∀{l:List Operand} {v:List Value},gZ cx ⟨a,sz,m⟩ l=some v->gZ cx ⟨b,sz,m⟩ l=some v
 | [],v,e=>e
 | x::r,v,e=>by
  unfold gZ at e ⊢;split at e
  .rename_i h1;split at e
   .rename_i h2;simp only[da h h1,rA h h2];exact e
   .cases e
  .cases e
omit [Kap]in
theorem yp{a b:Tr Value}(h:Sub a b){sz:Nat}{m:Mem}{x:Option Operand}{v:Option Value}(e:iI cx ⟨a,sz,m⟩ x=some v):iI cx ⟨b,sz,m⟩ x=some v:=by
 cases x with
 | none=>exact e
 | some x=>
  cases h1:cU cx ⟨a,sz,m⟩ x with
  | none=>simp only[iI,h1]at e;cases e
  | some y=>simp only[iI,h1]at e ⊢;simp only[da h h1];exact e
omit [Kap]in
theorem yq{a b:Tr Value}(h:Sub a b){sz:Nat}{m:Mem}:∀{l:List (Nat×Operand)} {v:List (Nat×Value)},gT cx ⟨a,sz,m⟩ l=some v->gT cx ⟨b,sz,m⟩ l=some v
 | [],v,e=>e
 | (i,x)::r,v,e=>by
  unfold gT at e ⊢;split at e
  .rename_i h1;split at e
   .rename_i h2;simp only[da h h1,yq h h2];exact e
   .cases e
  .cases e
omit [Kap]in
theorem Ka{call:dB}{a b:Tr Value}(h:Sub a b){sz:Nat}{m:Mem}{c:Call}{r:Value×Mem}(e:gq cx call ⟨a,sz,m⟩ c=some r):gq cx call ⟨b,sz,m⟩ c=some r:=by
 unfold gq at e ⊢;cases h1:gZ cx ⟨a,sz,m⟩ c.args.toList with
 | none=>simp[h1]at e
 | some l=>
  simp only[h1]at e;simp only[rA h h1];cases hc:c.callee with
  | builtin q=>simp only[hc]at e ⊢;exact e
  | value f=>
   simp only[hc]at e ⊢;cases h2:cU cx ⟨a,sz,m⟩ f with
   | none=>simp[h2]at e
   | some y=>simp only[h2]at e;simp only[da h h2];exact e
  | invoke x name=>
   simp only[hc]at e ⊢;cases h2:cU cx ⟨a,sz,m⟩ x with
   | none=>simp[h2]at e
   | some y=>simp only[h2]at e;simp only[da h h2];exact e
omit [Kap]in
theorem HU{call:dB}{a b:Tr Value}(h:Sub a b){sz:Nat}{m:Mem}{o:Oper}{r:Option Value×Mem}(e:dh cx call ⟨a,sz,m⟩ o=some r):dh cx call ⟨b,sz,m⟩ o=some r:=by
 unfold dh at e ⊢;cases ho:o.op with
 | move x=>
  simp only[ho]at e ⊢;cases h1:cU cx ⟨a,sz,m⟩ x with
  | none=>simp[h1]at e
  | some y=>simp only[h1]at e;simp only[da h h1];exact e
 | assign x=>
  simp only[ho]at e ⊢;cases h1:cU cx ⟨a,sz,m⟩ x with
  | none=>simp[h1]at e
  | some y=>simp only[h1]at e;simp only[da h h1];exact e
 | pick c x y=>
  simp only[ho]at e ⊢;cases h1:cU cx ⟨a,sz,m⟩ c with
  | none=>simp[h1]at e
  | some q=>
   cases q with
   | bool t=>
    cases t with
    | true=>
     cases h2:cU cx ⟨a,sz,m⟩ x with
     | none=>simp[h1,h2]at e
     | some v=>simp only[h1,h2]at e;simp only[da h h1,da h h2];exact e
    | false=>
     cases h2:cU cx ⟨a,sz,m⟩ y with
     | none=>simp[h1,h2]at e
     | some v=>simp only[h1,h2]at e;simp only[da h h1,da h h2];exact e
   | _=>simp[h1]at e
 | alloc t=>simp only[ho]at e ⊢;exact e
 | box t x=>
  simp only[ho]at e ⊢;cases h1:cU cx ⟨a,sz,m⟩ x with
  | none=>simp[h1]at e
  | some y=>simp only[h1]at e;simp only[da h h1];exact e
 | build t ps=>
  simp only[ho]at e ⊢;cases h1:gT cx ⟨a,sz,m⟩ ps.toList with
  | none=>simp[h1]at e
  | some y=>simp only[h1]at e;simp only[yq h h1];exact e
 | buildSlice t n ps=>
  simp only[ho]at e ⊢;cases h1:gT cx ⟨a,sz,m⟩ ps.toList with
  | none=>simp[h1]at e
  | some y=>simp only[h1]at e;simp only[yq h h1];exact e
 | load t x=>
  simp only[ho]at e ⊢;cases h1:cU cx ⟨a,sz,m⟩ x with
  | none=>simp[h1]at e
  | some y=>simp only[h1]at e;simp only[da h h1];exact e
 | store t x z=>
  simp only[ho]at e ⊢;cases h1:cU cx ⟨a,sz,m⟩ x with
  | none=>simp[h1]at e
  | some v1=>
   cases h2:cU cx ⟨a,sz,m⟩ z with
   | none=>simp[h1,h2]at e
   | some v2=>simp only[h1,h2]at e;simp only[da h h1,da h h2];exact e
 | nilCheck x=>
  simp only[ho]at e ⊢;cases h1:cU cx ⟨a,sz,m⟩ x with
  | none=>simp[h1]at e
  | some y=>simp only[h1]at e;simp only[da h h1];exact e
 | binOp op t x z u=>
  simp only[ho]at e ⊢;cases h1:cU cx ⟨a,sz,m⟩ x with
  | none=>simp[h1]at e
  | some v1=>
   cases h2:cU cx ⟨a,sz,m⟩ z with
   | none=>simp[h1,h2]at e
   | some v2=>simp only[h1,h2]at e;simp only[da h h1,da h h2];exact e
 | unOp op t x=>
  simp only[ho]at e ⊢;cases h1:cU cx ⟨a,sz,m⟩ x with
  | none=>simp[h1]at e
  | some y=>simp only[h1]at e;simp only[da h h1];exact e
 | convert p q x=>
  simp only[ho]at e ⊢;cases h1:cU cx ⟨a,sz,m⟩ x with
  | none=>simp[h1]at e
  | some y=>simp only[h1]at e;simp only[da h h1];exact e
 | makeInterface t x=>
  simp only[ho]at e ⊢;cases h1:cU cx ⟨a,sz,m⟩ x with
  | none=>simp[h1]at e
  | some y=>simp only[h1]at e;simp only[da h h1];exact e
 | makeFunc fn f c=>
  simp only[ho]at e ⊢;cases h1:gZ cx ⟨a,sz,m⟩ f.toList with
  | none=>simp[h1]at e
  | some v1=>
   cases h2:gZ cx ⟨a,sz,m⟩ c.toList with
   | none=>simp[h1,h2]at e
   | some v2=>simp only[h1,h2]at e;simp only[rA h h1,rA h h2];exact e
 | makeMap t r=>cases r<;>(simp only[ho]at e ⊢;exact e)
 | makeSlice t x z=>
  simp only[ho]at e ⊢;cases h1:cU cx ⟨a,sz,m⟩ x with
  | none=>simp[h1]at e
  | some v1=>
   cases h2:cU cx ⟨a,sz,m⟩ z with
   | none=>simp[h1,h2]at e
   | some v2=>simp only[h1,h2]at e;simp only[da h h1,da h h2];exact e
 | slice t x lo hi mx=>
  simp only[ho]at e ⊢;cases h1:cU cx ⟨a,sz,m⟩ x with
  | none=>simp[h1]at e
  | some v1=>
   cases h2:iI cx ⟨a,sz,m⟩ lo with
   | none=>simp[h1,h2]at e
   | some v2=>
    cases h3:iI cx ⟨a,sz,m⟩ hi with
    | none=>simp[h1,h2,h3]at e
    | some v3=>
     cases h4:iI cx ⟨a,sz,m⟩ mx with
     | none=>simp[h1,h2,h3,h4]at e
     | some v4=>simp only[h1,h2,h3,h4]at e;simp only[da h h1,yp h h2,yp h h3,yp h h4];exact e
 | fieldAddr t x f=>
  simp only[ho]at e ⊢;cases h1:cU cx ⟨a,sz,m⟩ x with
  | none=>simp[h1]at e
  | some y=>simp only[h1]at e;simp only[da h h1];exact e
 | field t x f=>
  simp only[ho]at e ⊢;cases h1:cU cx ⟨a,sz,m⟩ x with
  | none=>simp[h1]at e
  | some y=>simp only[h1]at e;simp only[da h h1];exact e
 | indexAddr t x z=>
  simp only[ho]at e ⊢;cases h1:cU cx ⟨a,sz,m⟩ x with
  | none=>simp[h1]at e
  | some v1=>
   cases h2:cU cx ⟨a,sz,m⟩ z with
   | none=>simp[h1,h2]at e
   | some v2=>simp only[h1,h2]at e;simp only[da h h1,da h h2];exact e
 | index t x z=>
  simp only[ho]at e ⊢;cases h1:cU cx ⟨a,sz,m⟩ x with
  | none=>simp[h1]at e
  | some v1=>
   cases h2:cU cx ⟨a,sz,m⟩ z with
   | none=>simp[h1,h2]at e
   | some v2=>simp only[h1,h2]at e;simp only[da h h1,da h h2];exact e
 | lookup t x z ok=>
  simp only[ho]at e ⊢;cases h1:cU cx ⟨a,sz,m⟩ x with
  | none=>simp[h1]at e
  | some v1=>
   cases h2:cU cx ⟨a,sz,m⟩ z with
   | none=>simp[h1,h2]at e
   | some v2=>simp only[h1,h2]at e;simp only[da h h1,da h h2];exact e
 | mapUpdate t x y z=>
  simp only[ho]at e ⊢;cases h1:cU cx ⟨a,sz,m⟩ x with
  | none=>simp[h1]at e
  | some v1=>
   cases h2:cU cx ⟨a,sz,m⟩ y with
   | none=>simp[h1,h2]at e
   | some v2=>
    cases h3:cU cx ⟨a,sz,m⟩ z with
    | none=>simp[h1,h2,h3]at e
    | some v3=>simp only[h1,h2,h3]at e;simp only[da h h1,da h h2,da h h3];exact e
 | insert t x y z=>
  simp only[ho]at e ⊢;cases h1:cU cx ⟨a,sz,m⟩ x with
  | none=>simp[h1]at e
  | some v1=>
   cases h2:cU cx ⟨a,sz,m⟩ y with
   | none=>simp[h1,h2]at e
   | some v2=>
    cases h3:cU cx ⟨a,sz,m⟩ z with
    | none=>simp[h1,h2,h3]at e
    | some v3=>simp only[h1,h2,h3]at e;simp only[da h h1,da h h2,da h h3];exact e
 | mapEntry t x z=>
  simp only[ho]at e ⊢;cases h1:cU cx ⟨a,sz,m⟩ x with
  | none=>simp[h1]at e
  | some v1=>
   cases h2:cU cx ⟨a,sz,m⟩ z with
   | none=>simp[h1,h2]at e
   | some v2=>simp only[h1,h2]at e;simp only[da h h1,da h h2];exact e
 | entryStore t x y z=>
  simp only[ho]at e ⊢;cases h1:cU cx ⟨a,sz,m⟩ x with
  | none=>simp[h1]at e
  | some v1=>
   cases h2:cU cx ⟨a,sz,m⟩ y with
   | none=>simp[h1,h2]at e
   | some v2=>
    cases h3:cU cx ⟨a,sz,m⟩ z with
    | none=>simp[h1,h2,h3]at e
    | some v3=>simp only[h1,h2,h3]at e;simp only[da h h1,da h h2,da h h3];exact e
 | typeAssert x t u ok=>
  simp only[ho]at e ⊢;cases h1:cU cx ⟨a,sz,m⟩ x with
  | none=>simp[h1]at e
  | some y=>simp only[h1]at e;simp only[da h h1];exact e
 | extract x i=>
  simp only[ho]at e ⊢;cases h1:cU cx ⟨a,sz,m⟩ x with
  | none=>simp[h1]at e
  | some y=>simp only[h1]at e;simp only[da h h1];exact e
 | call c=>
  simp only[ho]at e ⊢;cases h1:gq cx call ⟨a,sz,m⟩ c with
  | none=>rw[h1]at e;cases e
  | some x=>rw[h1]at e;rw[Ka h h1];exact e
 | _=>simp only[ho]at e;cases e
end Go.AX
namespace Go.AX
noncomputable section
def wG:Option AObj->Option (Tr Value×Nat)
 | some (.cells c n _ _)=>some (c,n)
 | some (.ro c n)=>some (c,n)
 | _=>none
def rd(m:Mem)(b o:Nat):Option Value:=match wG (m.hp.get b)with
 | some (c,n)=>match Nat.blt o n with
  | true=>c.get o
  | false=>none
 | none=>none
def wr(m:Mem)(b o:Nat)(l:List Value):Mem:=match m.hp.get b with
 | some (.cells c k e x)=>{ m with hp:=m.hp.put b (.cells (ec c l o) k e x) }
 | _=>m
def okW(m:Mem)(b o n:Nat):Prop:=m.fl<=b/\∃c k e x,m.hp.get b=some (.cells c k e x)/\o+n<=k
def row(l:List Value)(e:TypeId)(x:Bool):AObj:=.cells (ec .nil l 0) l.length e x
def newO(m:Mem)(o:AObj):Mem:={ hp:=m.hp.put m.nx o,nx:=m.nx+1,fl:=m.fl }
def addO(m:Mem)(id:Nat)(o:AObj):Mem:={ m with hp:=m.hp.put id o }
def bump(m:Mem)(n:Nat):Mem:={ m with nx:=m.nx+n }
def setFl(m:Mem)(n:Nat):Mem:={ m with fl:=n }
def bh(k:IntKind)(x y:Int):Int:=lM k (x+y)
def de(k:IntKind)(x y:Int):Int:=lM k (x-y)
def io(k:IntKind)(x y:Int):Int:=lM k (x*y)
def ot(k:IntKind)(x y:Int):Int:=lM k (x.tdiv y)
def Qu(k:IntKind)(x y:Int):Int:=k.wrap (BitVec.ofInt k.bits x&&& BitVec.ofInt k.bits y).toNat
def QI(k:IntKind)(x y:Int):Int:=k.wrap (BitVec.ofInt k.bits x ||| BitVec.ofInt k.bits y).toNat
def PI(k:IntKind)(x y:Int):Int:=k.wrap (BitVec.ofInt k.bits x ^^^ BitVec.ofInt k.bits y).toNat
def Oy(k:IntKind)(x y:Int):Int:=k.wrap (BitVec.ofInt k.bits x&&& ~~~ BitVec.ofInt k.bits y).toNat
def Qv(k:IntKind)(x y:Int):Int:=k.wrap (x*2 ^ (min y.toNat k.bits))
def lW(k:IntKind)(x y:Int):Int:=x.fdiv (2 ^ (min y.toNat k.bits))
def iF(k:IntKind)(x:Int):Int:=lM k x
def stay(p:Prop):Bool:=@decide p (Classical.propDecidable p)
@[simp] theorem Oz (p:Prop) [h:Decidable p]:stay p=decide p:=by
 unfold stay;cases h with
 | isTrue h=>exact @decide_eq_true p (Classical.propDecidable p) h
 | isFalse h=>exact @decide_eq_false p (Classical.propDecidable p) h
def cT(x y:Int):Bool:=stay (x=y)
def dT(x y:Int):Bool:=!stay (x=y)
def cR(x y:Int):Bool:=stay (x<y)
def leI(x y:Int):Bool:=stay (x<=y)
def aQ(n:Nat):Int:=(n:Int)
def ke(x y:Int):Int:=if x<y then y else x
def fG(x y:Int):Int:=if y<x then y else x
def NT(x y:ByteArray):Bool:=mu x.data.toList y.data.toList
def NU(x y:ByteArray):Bool:=Op.bytesLess x.data.toList y.data.toList
def Qw(x y:ByteArray):ByteArray:=⟨(x.data.toList++y.data.toList).toArray⟩
def MN(x:ByteArray):Nat:=x.data.toList.length
def splitB(b:Bool)(t e:Prop):Prop:=match b with
 | true=>t
 | false=>e
def dJ{α : Type}(j:α)(f:α->Prop):Prop:=f j
def cY(m:Mem)(K:Mem->Prop):Prop:=∀m',m'=m->K m'
def eW(o:Option Value)(K:Value->Prop):Prop:=match o with
 | some v=>K v
 | none=>False
def cZ(p:Option Addr)(K:Nat->Nat->Prop):Prop:=match p with
 | some ⟨b,o,none⟩=>K b o
 | _=>False
def GA(v:Value)(P:Prop):Prop:=match v with
 | .agg _=>False
 | .tuple _=>False
 | _=>P
def KY:List Value->Nat->Prop->Prop
 | [],0,P=>P
 | v::r,n+1,P=>GA v (KY r n P)
 | _,_,_=>False
inductive Lf where
 | int (k:IntKind)|bool|str|ptr|sl|map|any
def Lf.ex:Lf->(Value->Prop)->Prop
 | .int k,P=>∃x:Int,P (.int k x)
 | .bool,P=>∃b:Bool,P (.bool b)
 | .str,P=>∃s:ByteArray,P (.string s)
 | .ptr,P=>∃p:Option Addr,P (.pointer p)
 | .sl,P=>∃(a:Option Addr) (n c:Nat),P (.slice a n c)
 | .map,P=>∃r:Option Nat,P (.map r)
 | .any,P=>∃v:Value,P v
inductive Shp where
 | one (l:Lf)
 | agg (ls:List Lf)
 | big (n:Nat)
def PK:List Lf->(List Value->Prop)->Prop
 | [],P=>P []
 | f::r,P=>f.ex fun v=>PK r fun vs=>P (v::vs)
def Shp.ex:Shp->(Value->Prop)->Prop
 | .one l,P=>l.ex P
 | .agg ls,P=>PK ls fun vs=>P (.agg vs.toArray)
 | .big n,P=>∃vs:List Value,vs.length=n/\P (.agg vs.toArray)
def MO:List Shp->(List Value->Prop)->Prop
 | [],P=>P []
 | f::r,P=>f.ex fun v=>MO r fun vs=>P (v::vs)
def PM(m:Mem)(b o:Nat):List Lf->Nat->(List Value->Prop)->Prop
 | [],_,P=>P []
 | f::r,i,P=>f.ex fun v=>rd m b (o+i)=some v/\PM m b o r (i+1) fun vs=>P (v::vs)
def Qp:TypeDesc->Option Lf
 | .int k=>some (.int k)
 | .bool=>some .bool
 | .string=>some .str
 | .pointer _=>some .ptr
 | .slice _=>some .sl
 | .map _ _=>some .map
 | .interface _=>some .any
 | .func _ _ _=>some .any
 | _=>none
def PN(f:TypeId->Option (List Lf)):List Field->Option (List Lf)
 | []=>some []
 | x::r=>match f x.type,PN f r with
  | some a,some b=>some (a++b)
  | _,_=>none
def PO(l:List Lf):Nat->List Lf
 | 0=>[]
 | n+1=>l++PO l n
variable (cx:Cx)
def leaves:Nat->TypeId->Option (List Lf)
 | 0,_=>none
 | d+1,t=>match cx.un.get t with
  | some (.struct fs)=>PN (leaves d) fs.toList
  | some (.array n e)=>match Nat.ble n 8 with
   | true=>match leaves d e with
    | some l=>some (PO l n)
    | none=>none
   | false=>none
  | some u=>match Qp u with
   | some l=>some [l]
   | none=>none
  | none=>none
def Ea(t:TypeId):Option Shp:=match cx.un.get t,dO cx t with
 | some d,some n=>match mX d with
  | true=>match leaves cx 6 t with
   | some (f::ls)=>match Nat.beq (f::ls).length n with
    | true=>some (.agg (f::ls))
    | false=>none
   | _=>match n with
    | 0=>none
    | n+1=>some (.big (n+1))
  | false=>match Nat.beq n 1 with
   | true=>match Qp d with
    | some l=>some (.one l)
    | none=>none
   | false=>none
 | _,_=>none
def PP:List TypeId->Option (List Shp)
 | []=>some []
 | t::r=>match Ea cx t,PP r with
  | some s,some l=>some (s::l)
  | _,_=>none
def MP(t:TypeId)(r:Value)(K:Value->Prop):Prop:=match cx.un.get t with
 | some (.tuple ts)=>match PP cx ts.toList with
  | some ss=>MO ss fun vs=>r = .tuple vs.toArray/\K (.tuple vs.toArray)
  | none=>False
 | _=>match Ea cx t with
  | some s=>s.ex fun v=>r=v/\K v
  | none=>False
def tP(t:TypeId):Bool:=match cx.un.get t with
 | some d=>mX d
 | none=>false
def GB(agg:Bool)(v:Value)(P:List Value->Prop):Prop:=match agg with
 | false=>GA v (P [v])
 | true=>match v with
  | .agg cs=>P cs.toList
  | _=>False
def NV(k:FuncId)(args:List Value)(m:Mem)(Q:Value->Mem->Prop):Prop:=
 ∃n r m',dU cx (eI cx n) k args m=some (r,m')/\Q r m'
def fQ(tm:Tr Value)(x:Operand):Option Value:=match x with
 | .tmp t=>tm.get t
 | .const v=>match nf v with
  | true=>some v
  | false=>none
 | .global g=>match Nat.blt g cx.globals with
  | true=>some (.pointer (some ⟨g,0,none⟩))
  | false=>none
 | .func f=>some (.func (.func f) #[] #[])
def H8(tm:Tr Value):List Operand->(List Value->Prop)->Prop
 | [],P=>P []
 | x::r,P=>eW (fQ cx tm x) fun v=>H8 tm r fun vs=>P (v::vs)
def NW(tm:Tr Value):Option Operand->(Option Value->Prop)->Prop
 | none,P=>P none
 | some x,P=>eW (fQ cx tm x) fun v=>P (some v)
def MQ(op:BinOp)(k k':IntKind)(x y:Int)(K:Value->Prop):Prop:=match op with
 | .shl=>0<=y/\K (.int k (Qv k x y))
 | .shr=>0<=y/\K (.int k (lW k x y))
 | _=>match decide (k=k')with
  | false=>False
  | true=>match op with
   | .add=>K (.int k (bh k x y))
   | .sub=>K (.int k (de k x y))
   | .mul=>K (.int k (io k x y))
   | .quo=>y≠0/\K (.int k (ot k x y))
   | .rem=>y≠0/\K (.int k (x.tmod y))
   | .and=>K (.int k (Qu k x y))
   | .or=>K (.int k (QI k x y))
   | .xor=>K (.int k (PI k x y))
   | .andNot=>K (.int k (Oy k x y))
   | .eql=>K (.bool (cT x y))
   | .neq=>K (.bool (dT x y))
   | .lss=>K (.bool (cR x y))
   | .leq=>K (.bool (leI x y))
   | .gtr=>K (.bool (cR y x))
   | .geq=>K (.bool (leI y x))
   | _=>False
def MR(op:BinOp)(x y:ByteArray)(K:Value->Prop):Prop:=match op with
 | .add=>MN x+MN y<=140737488355328/\K (.string (Qw x y))
 | .eql=>K (.bool (NT x y))
 | .neq=>K (.bool (!NT x y))
 | .lss=>K (.bool (NU x y))
 | .leq=>K (.bool (NU x y || NT x y))
 | .gtr=>K (.bool (!(NU x y || NT x y)))
 | .geq=>K (.bool (!NU x y))
 | _=>False
def KZ(m:Mem)(x y:Option Addr)(K:Bool->Prop):Prop:=match y with
 | none=>K x.isNone
 | some b=>∃r,pS m x (some b)=some r/\K r
def H9(m:Mem)(t:TypeId)(a b:Value)(K:Bool->Prop):Prop:=∃r,gj cx m 40 t a b=some r/\K r
def PQ(fs:List Field):Bool:=fs.all fun f=>match cx.un.get f.type with
 | some (.interface _)|some (.struct _)|some (.array _ _)|none=>false
 | _=>true
def Jd(m:Mem)(t:TypeId)(x y:Operand)(a b:Value)(K:Bool->Prop):Prop:=match cx.un.get t with
 | some (.interface ms)=>match oT x || oT y || ms.toList.isEmpty with
  | true=>H9 cx m t a b K
  | false=>(a = .nilIface->b = .nilIface->False)/\H9 cx m t a b K
 | some (.struct fs)=>match PQ cx fs.toList with
  | true=>H9 cx m t a b K
  | false=>False
 | some (.pointer e)=>match dO cx e with
  | some (_+1)=>match a,b with
   | .pointer p,.pointer q=>KZ m p q K
   | _,_=>False
  | _=>False
 | some (.slice _)=>H9 cx m t a b K
 | some (.map _ _)=>H9 cx m t a b K
 | some (.func _ _ _)=>H9 cx m t a b K
 | _=>False
def MS(m:Mem)(op:BinOp)(t:TypeId)(x y:Operand)(a b:Value)(K:Value->Prop):Prop:=match cx.un.get t with
 | some (.int _)=>match a,b with
  | .int k x,.int k' y=>MQ op k k' x y K
  | _,_=>False
 | some .string=>match a,b with
  | .string x,.string y=>MR op x y K
  | _,_=>False
 | some .bool=>match a,b with
  | .bool x,.bool y=>match op with
   | .eql=>K (.bool (x == y))
   | .neq=>K (.bool (!(x == y)))
   | _=>False
  | _,_=>False
 | _=>match op with
  | .eql=>Jd cx m t x y a b fun r=>K (.bool r)
  | .neq=>Jd cx m t x y a b fun r=>K (.bool (!r))
  | _=>False
def PS(op:UnOp)(a:Value)(K:Value->Prop):Prop:=match op,a with
 | .neg,.int k n=>K (.int k (de k 0 n))
 | .xor,.int k n=>K (.int k (PI k (if k.signed then -1 else k.max) n))
 | .not,.bool b=>K (.bool (!b))
 | _,_=>False
def zC(place:Nat->Option (Nat×Nat))(cells:List Value):List (Nat×List Value)->Option (List Value)
 | []=>some cells
 | (i,v)::rest=>match place i with
  | none=>none
  | some (off,size)=>match Nat.beq v.length size&&Nat.ble (off+v.length) cells.length with
   | true=>zC place (splice cells off v) rest
   | false=>none
def yQ(agg:Nat->Bool)(tm:Tr Value):List (Nat×Operand)->(List (Nat×List Value)->Prop)->Prop
 | [],P=>P []
 | (i,x)::r,P=>eW (fQ cx tm x) fun v=>GB (agg i) v fun l=>yQ agg tm r fun ps=>P ((i,l)::ps)
def sI(o:Option (List Value))(K:List Value->Prop):Prop:=match o with
 | some v=>K v
 | none=>False
def BY(tm:Tr Value)(t:TypeId)(ps:List (Nat×Operand))(K:Value->Prop):Prop:=
 match fB cx t,cx.un.get t with
 | some z,some (.struct fs)=>match sS cx fs.toList with
  | some pl=>yQ cx (fun i=>match fs.toList[i]? with|some f=>tP cx f.type|none=>false) tm ps fun l=>sI (zC (fun i=>pl[i]?) (bQ z) l) fun l=>K (.agg l.toArray)
  | none=>False
 | some z,some (.array _ e)=>match dO cx e with
  | some s=>yQ cx (fun _=>tP cx e) tm ps fun l=>sI (zC (fun i=>some (i*s,s)) (bQ z) l) fun l=>K (.agg l.toArray)
  | none=>False
 | _,_=>False
def sJ(tm:Tr Value)(op:Op)(id:Nat)(K:Value->AObj->Prop):Prop:=match op with
 | .alloc e=>eW (fB cx e) fun z=>K (.pointer (some ⟨id,0,none⟩)) (row (bQ z) e false)
 | .box e x=>eW (fQ cx tm x) fun v=>GB (tP cx e) v fun l=>K (.pointer (some ⟨id,0,none⟩)) (row l e false)
 | .buildSlice t n ps=>match cx.un.get t with
  | some (.slice e)=>match dO cx e,fB cx e with
   | some s,some z=>match Nat.ble (n*s) 16777216&&Nat.beq (bQ z).length s&&Nat.blt 0 s with
    | true=>yQ cx (fun _=>tP cx e) tm ps.toList fun l=>sI (zC (fun i=>some (i*s,s)) (ey (bQ z) n) l) fun l=>K (.slice (some ⟨id,0,none⟩) n n) (row l e false)
    | false=>False
   | _,_=>False
  | _=>False
 | .makeMap _ none=>K (.map (some id)) (.map [] 0)
 | .makeSlice t l c=>match cx.un.get t with
  | some (.slice e)=>match dO cx e,fB cx e,cx.ty.get e with
   | some s,some z,some i=>match Nat.beq (bQ z).length s&&Nat.blt 0 s with
    | true=>eW (fQ cx tm l) fun a=>eW (fQ cx tm c) fun b=>match a,b with
     | .int _ l,.int _ c=>(0<=l/\l<=c/\c<=1073741824/\i.bytes*c.toNat<=140737488355328)/\K (.slice (some ⟨id,0,none⟩) l.toNat c.toNat) (row (ey (bQ z) c.toNat) e false)
     | _,_=>False
    | false=>False
   | _,_,_=>False
  | _=>False
 | _=>False
def Fx(m:Mem)(t:TypeId)(b o:Nat)(K:Value->Prop):Prop:=match Ea cx t with
 | some (.one l)=>l.ex fun v=>rd m b o=some v/\K v
 | some (.agg ls)=>PM m b o ls 0 fun vs=>K (.agg vs.toArray)
 | some (.big n)=>∃vs:List Value,fk m ⟨b,o,none⟩ n=some vs/\K (.agg vs.toArray)
 | none=>False
def GC(m:Mem)(t:TypeId)(b o:Nat)(v:Value)(K:Mem->Prop):Prop:=match dO cx t with
 | some n=>match tP cx t with
  | false=>match Nat.beq n 1 with
   | true=>GA v (okW m b o 1/\cY (wr m b o [v]) K)
   | false=>False
  | true=>match v with
   | .agg cs=>KY cs.toList n (okW m b o n/\cY (wr m b o cs.toList) K)
   | _=>False
 | none=>False
def PT(v:Value)(K:Value->Prop):Prop:=match v with
 | .pointer p=>cZ p fun b o=>K (.pointer (some ⟨b,o,none⟩))
 | .iface t y=>K (.iface t y)
 | .func (.func k) f c=>K (.func (.func k) f c)
 | _=>False
def MU(a:Option Addr)(n s:Nat)(i:Int)(K:Value->Prop):Prop:=
 (0<=i/\i<n)/\cZ a fun b o=>K (.pointer (some ⟨b,o+i.toNat*s,none⟩))
def xg(t:TypeId)(x ix:Value)(K:Value->Prop):Prop:=match cx.un.get t with
 | some (.slice e)=>match dO cx e,x,ix with
  | some s,.slice a n _,.int _ i=>MU a n s i K
  | _,_,_=>False
 | some (.array n e)=>match dO cx e,x,ix with
  | some s,.pointer p,.int _ i=>MU p n s i K
  | _,_,_=>False
 | _=>False
def xh(t:TypeId)(x:Value)(f:Nat)(K:Value->Prop):Prop:=match cx.un.get t with
 | some (.struct fs)=>match fs.toList[f]? with
  | some fd=>match dO cx fd.type with
   | some (_+1)=>match x with
    | .pointer p=>cZ p fun b o=>K (.pointer (some ⟨b,o+fd.offset,none⟩))
    | _=>False
   | _=>False
  | none=>False
 | _=>False
def Je(t:TypeId)(o:Option Value)(K:Value->Prop):Prop:=match Ea cx t with
 | some s=>s.ex fun v=>o=some v/\K v
 | none=>False
def BZ(t:TypeId)(ok:Bool)(o:Option Value)(K:Value->Prop):Prop:=match ok with
 | false=>Je cx t o K
 | true=>match Ea cx t with
  | some s=>s.ex fun v=>∃b:Bool,o=some (.tuple #[v,.bool b])/\K (.tuple #[v,.bool b])
  | none=>False
def Jf(t:TypeId):TypeId:=match cx.un.get t with
 | some (.map _ e)=>e
 | some (.array _ e)=>e
 | some (.slice e)=>e
 | _=>0
def OA(m:Mem)(t:TypeId)(x k:Value)(ok:Bool)(K:Value->Prop):Prop:=BZ cx (Jf cx t) ok (mw cx m t x k ok) K
def MV(o:Option Mem)(K:Mem->Prop):Prop:=∃m',o=some m'/\K m'
def GD(m:Mem)(t:TypeId)(x:Value)(lo hi mx:Option Value)(K:Value->Prop):Prop:=match cx.un.get t with
 | some .string=>∃s:ByteArray,cX cx m t x lo hi mx=some (.string s)/\K (.string s)
 | _=>∃(a:Option Addr) (n c:Nat),cX cx m t x lo hi mx=some (.slice a n c)/\K (.slice a n c)
def GE(t:TypeId)(x ix:Value)(K:Value->Prop):Prop:=match cx.un.get t with
 | some .string=>match x,ix with
  | .string s,.int _ i=>0<=i/\∃c:UInt8,s.data.toList[i.toNat]? = some c/\K (.int .u8 (aQ c.toNat))
  | _,_=>False
 | _=>Je cx (Jf cx t) (vS cx t x ix) K
def Jg(m:Mem)(s d:TypeId)(x:Value)(K:Value->Prop):Prop:=match cx.un.get s,cx.un.get d with
 | some (.int _),some (.int k)=>match x with
  | .int _ n=>K (.int k (iF k n))
  | _=>False
 | some .string,some .string=>match x with
  | .string s=>K (.string s)
  | _=>False
 | some (.slice _),some .string=>∃r:ByteArray,kK cx m s d x=some (.string r)/\K (.string r)
 | _,_=>False
def OB(x:Value)(xT t:TypeId)(ok:Bool)(K:Value->Prop):Prop:=BZ cx t ok (zv cx x xT t ok) K
def AP(v:Value)(i:Nat)(K:Value->Prop):Prop:=match v with
 | .tuple vs=>eW vs.toList[i]? K
 | _=>False
def PU(t:TypeId)(x:Value)(f:Nat)(K:Value->Prop):Prop:=eW (Bh cx t x f) K
def wc(big:Bool):List Value->Value->(Value->Prop)->Prop
 | [],x,K=>K x
 | y::r,x,K=>match x,y with
  | .int k x,.int _ y=>match big with
   | true=>wc big r (.int k (ke x y)) K
   | false=>wc big r (.int k (fG x y)) K
  | _,_=>False
def MW(m:Mem)(t:TypeId)(x:Value)(K:Value->Prop):Prop:=match cx.un.get t with
 | some .string=>match x with
  | .string s=>K (.int .i64 (aQ (MN s)))
  | _=>False
 | some (.array n _)=>K (.int .i64 (aQ n))
 | some (.slice _)=>match x with
  | .slice _ n _=>K (.int .i64 (aQ n))
  | _=>False
 | _=>∃n:Int,qF cx m [t] [x]=some (.int .i64 n)/\K (.int .i64 n)
def xi(m:Mem)(b:Builtin)(ts:List TypeId)(args:List Value)(K:Value->Mem->Prop):Prop:=match b with
 | .append=>∃(a:Option Addr) (n c:Nat) (m':Mem),cQ cx m ts args=some (.slice a n c,m')/\K (.slice a n c) m'
 | .copy=>∃(x:Int) (m':Mem),iK cx m ts args=some (.int .i64 x,m')/\K (.int .i64 x) m'
 | .len=>match ts,args with
  | t::_,[x]=>MW cx m t x fun v=>K v m
  | _,_=>False
 | .cap=>∃x:Int,mF cx m ts args=some (.int .i64 x)/\K (.int .i64 x) m
 | .max=>match args with
  | x::r=>wc true r x fun v=>K v m
  | []=>False
 | .min=>match args with
  | x::r=>wc false r x fun v=>K v m
  | []=>False
 | .delete=>match ts,args with
  | t::_,[x,k]=>MV (nO cx m t x k) fun m'=>K (.tuple #[]) m'
  | _,_=>False
 | .clear=>∃m',lm cx m ts args=some (.tuple #[],m')/\K (.tuple #[]) m'
 | _=>False
def GF(dst:Option Tmp)(t:TypeId)(K:Value->Mem->Prop)(r:Value)(m:Mem):Prop:=match dst with
 | none=>K r m
 | some _=>MP cx t r fun v=>K v m
def K0(m:Mem)(f:Value)(args:List Value)(K:Value->Mem->Prop):Prop:=match f with
 | .func (.func k) first captured=>NV cx k (first.toList++(args++captured.toList)) m K
 | _=>False
def OC(m:Mem)(x:Value)(name:String)(args:List Value)(K:Value->Mem->Prop):Prop:=
 ∃t v,x = .iface t v/\∃k r,vU cx t v name=some (k,r)/\NV cx k (r::args) m K
def Jh(tm:Tr Value)(m:Mem)(dst:Option Tmp)(ty:TypeId)(c:Call)(K:Value->Mem->Prop):Prop:=
 H8 cx tm c.args.toList fun args=>match c.callee with
  | .builtin b=>xi cx m b c.argTypes.toList args K
  | .value f=>eW (fQ cx tm f) fun f=>K0 cx m f args fun r m'=>GF cx dst ty K r m'
  | .invoke x name=>eW (fQ cx tm x) fun x=>OC cx m x name args fun r m'=>GF cx dst ty K r m'
def PV:Op->Bool
 | .alloc _ | .box .. | .buildSlice .. | .makeMap _ none | .makeSlice ..=>true
 | _=>false
def PW(tm:Tr Value)(m:Mem)(dst:Option Tmp)(ty:TypeId)(op:Op)(K:Option Value->Mem->Prop):Prop:=match op with
 | .move x | .assign x=>eW (fQ cx tm x) fun v=>K (some v) m
 | .pick c a b=>eW (fQ cx tm c) fun
  | .bool c=>splitB c (eW (fQ cx tm a) fun v=>K (some v) m) (eW (fQ cx tm b) fun v=>K (some v) m)
  | _=>False
 | .build t ps=>BY cx tm t ps.toList fun v=>K (some v) m
 | .load t a=>eW (fQ cx tm a) fun
  | .pointer p=>cZ p fun b o=>Fx cx m t b o fun v=>K (some v) m
  | _=>False
 | .store t a x=>eW (fQ cx tm a) fun
  | .pointer p=>cZ p fun b o=>eW (fQ cx tm x) fun v=>GC cx m t b o v fun m'=>K none m'
  | _=>False
 | .nilCheck x=>eW (fQ cx tm x) fun v=>PT v fun v=>K (some v) m
 | .binOp op t x y _=>eW (fQ cx tm x) fun a=>eW (fQ cx tm y) fun b=>MS cx m op t x y a b fun v=>K (some v) m
 | .unOp op _ x=>eW (fQ cx tm x) fun a=>PS op a fun v=>K (some v) m
 | .convert s d x=>eW (fQ cx tm x) fun a=>Jg cx m s d a fun v=>K (some v) m
 | .makeInterface t x=>eW (fQ cx tm x) fun a=>match cx.un.get t with
  | some (.interface _)=>False
  | some _=>K (some (.iface t a)) m
  | none=>False
 | .makeFunc fn f c=>H8 cx tm f.toList fun f=>H8 cx tm c.toList fun c=>K (some (.func fn f.toArray c.toArray)) m
 | .slice t x lo hi mx=>eW (fQ cx tm x) fun x=>NW cx tm lo fun lo=>NW cx tm hi fun hi=>NW cx tm mx fun mx=>GD cx m t x lo hi mx fun v=>K (some v) m
 | .fieldAddr t x f=>eW (fQ cx tm x) fun a=>xh cx t a f fun v=>K (some v) m
 | .field t x f=>eW (fQ cx tm x) fun a=>PU cx t a f fun v=>K (some v) m
 | .indexAddr t x i=>eW (fQ cx tm x) fun a=>eW (fQ cx tm i) fun i=>xg cx t a i fun v=>K (some v) m
 | .index t x i=>eW (fQ cx tm x) fun a=>eW (fQ cx tm i) fun i=>GE cx t a i fun v=>K (some v) m
 | .lookup t x k ok=>eW (fQ cx tm x) fun a=>eW (fQ cx tm k) fun k=>OA cx m t a k ok fun v=>K (some v) m
 | .mapUpdate t x k y | .insert t x k y=>eW (fQ cx tm x) fun a=>eW (fQ cx tm k) fun k=>eW (fQ cx tm y) fun y=>MV (fN cx m t a k y) fun m'=>K none m'
 | .mapEntry t x k=>eW (fQ cx tm x) fun a=>eW (fQ cx tm k) fun k=>match Ea cx (Jf cx t)with
  | some s=>s.ex fun v=>∃(i:Int) (m':Mem),kl cx m t a k=some (.tuple #[v,.int .i64 i],m')/\K (some (.tuple #[v,.int .i64 i])) m'
  | none=>False
 | .entryStore _ x s y=>eW (fQ cx tm x) fun a=>eW (fQ cx tm s) fun s=>eW (fQ cx tm y) fun y=>MV (iL m a s y) fun m'=>K none m'
 | .typeAssert x xT t ok=>eW (fQ cx tm x) fun a=>OB cx a xT t ok fun v=>K (some v) m
 | .extract x i=>eW (fQ cx tm x) fun a=>AP a i fun v=>K (some v) m
 | .call c=>Jh cx tm m dst ty c fun v m'=>K (some v) m'
 | op=>match PV op with
  | true=>sJ cx tm op m.nx fun v ob=>cY (newO m ob) (K (some v))
  | false=>False
def B0(ops:List Oper)(tm:Tr Value)(o:Oper)(run:Tr Value->Bool->Prop):Prop:=match o.guard with
 | none=>run tm true
 | some (j,want)=>match ops[j]? with
  | some g=>match g.dst with
   | some d=>match tm.get d with
    | some (.bool b)=>splitB b (run (tm.put d (.bool true)) want) (run (tm.put d (.bool false)) (!want))
    | some (.tuple _)=>run tm false
    | _=>False
   | none=>False
  | none=>False
abbrev Live:=List (Nat×Lf)
def tQ:Live->Type->Type
 | [],T=>T
 | (_,.int _)::r,T=>Int->tQ r T
 | (_,.bool)::r,T=>Bool->tQ r T
 | (_,.str)::r,T=>ByteArray->tQ r T
 | (_,.ptr)::r,T=>Option Addr->tQ r T
 | (_,.sl)::r,T=>Option Addr->Nat->Nat->tQ r T
 | (_,.map)::r,T=>Option Nat->tQ r T
 | (_,.any)::r,T=>Value->tQ r T
def Ah{T:Type}:(l:Live)->tQ l T->Tr Value->(T->Tr Value->Prop)->Prop
 | [],J,tm,F=>F J tm
 | (i,.int k)::r,J,tm,F=>∀x:Int,Ah r (J x) (tm.put i (.int k x)) F
 | (i,.bool)::r,J,tm,F=>∀x:Bool,Ah r (J x) (tm.put i (.bool x)) F
 | (i,.str)::r,J,tm,F=>∀x:ByteArray,Ah r (J x) (tm.put i (.string x)) F
 | (i,.ptr)::r,J,tm,F=>∀x:Option Addr,Ah r (J x) (tm.put i (.pointer x)) F
 | (i,.sl)::r,J,tm,F=>∀(a:Option Addr) (n c:Nat),Ah r (J a n c) (tm.put i (.slice a n c)) F
 | (i,.map)::r,J,tm,F=>∀x:Option Nat,Ah r (J x) (tm.put i (.map x)) F
 | (i,.any)::r,J,tm,F=>∀x:Value,Ah r (J x) (tm.put i x) F
def qy{T:Type}:(l:Live)->Tr Value->(Tr Value->T)->tQ l T
 | [],tm,f=>f tm
 | (i,.int k)::r,tm,f=>fun(x:Int)=>qy r (tm.put i (.int k x)) f
 | (i,.bool)::r,tm,f=>fun(x:Bool)=>qy r (tm.put i (.bool x)) f
 | (i,.str)::r,tm,f=>fun(x:ByteArray)=>qy r (tm.put i (.string x)) f
 | (i,.ptr)::r,tm,f=>fun(x:Option Addr)=>qy r (tm.put i (.pointer x)) f
 | (i,.sl)::r,tm,f=>fun(a:Option Addr) (n c:Nat)=>qy r (tm.put i (.slice a n c)) f
 | (i,.map)::r,tm,f=>fun(x:Option Nat)=>qy r (tm.put i (.map x)) f
 | (i,.any)::r,tm,f=>fun(x:Value)=>qy r (tm.put i x) f
def eP{T:Type}:(l:Live)->tQ l T->Tr Value->T->T
 | [],J,_,_=>J
 | (i,.int k)::r,J,tm,d=>match tm.get i with
  | some (.int k' x)=>match decide (k=k')with
   | true=>eP r (J x) tm d
   | false=>d
  | _=>d
 | (i,.bool)::r,J,tm,d=>match tm.get i with
  | some (.bool x)=>eP r (J x) tm d
  | _=>d
 | (i,.str)::r,J,tm,d=>match tm.get i with
  | some (.string x)=>eP r (J x) tm d
  | _=>d
 | (i,.ptr)::r,J,tm,d=>match tm.get i with
  | some (.pointer x)=>eP r (J x) tm d
  | _=>d
 | (i,.sl)::r,J,tm,d=>match tm.get i with
  | some (.slice a n c)=>eP r (J a n c) tm d
  | _=>d
 | (i,.map)::r,J,tm,d=>match tm.get i with
  | some (.map x)=>eP r (J x) tm d
  | _=>d
 | (i,.any)::r,J,tm,d=>match tm.get i with
  | some x=>eP r (J x) tm d
  | _=>d
def iy:Code->List Nat
 | .region _ ops _=>ops.toList.filterMap (·.dst)
 | .seq a b=>iy a++iy b
 | .cond _ a b=>iy a++iy b
 | .block _ c=>iy c
 | .loop c=>iy c
 | _=>[]
def Dc(l:List Nat)(i:Nat):Bool:=match l with
 | []=>false
 | x::r=>match Nat.beq x i with
  | true=>true
  | false=>Dc r i
def rK(keep ws:List Nat):Bool:=match keep with
 | []=>true
 | i::r=>match Dc ws i with
  | true=>false
  | false=>rK r ws
def mQ(tm:Tr Value):List Nat->Tr Value
 | []=>.nil
 | i::r=>match tm.get i with
  | some v=>(mQ tm r).put i v
  | none=>mQ tm r
def Ji(tm:Tr Value)(c:Operand)(F:Tr Value->Bool->Prop):Prop:=match c with
 | .tmp t=>match tm.get t with
  | some (.bool b)=>splitB b (F (tm.put t (.bool true)) true) (F (tm.put t (.bool false)) false)
  | _=>False
 | c=>match fQ cx tm c with
  | some (.bool b)=>splitB b (F tm true) (F tm false)
  | _=>False
end
end Go.AX
