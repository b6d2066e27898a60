import Derived.Test.YtiehbnmpaeedpaaGreatQJ05
import Derived.Test.YtiehbnmpaeedpaaGreatQJ06
set_option linter.unusedSectionVars false
set_option linter.unusedSimpArgs false
set_option linter.unusedVariables false
namespace Go.AX
@[simp] theorem newO_nx (m:Mem) (o:AObj):(newO m o).nx=m.nx+1:=rfl
@[simp] theorem newO_fl (m:Mem) (o:AObj):(newO m o).fl=m.fl:=rfl
theorem newO_get (m:Mem) (o:AObj) (b:Nat):(newO m o).hp.get b=if b=m.nx then some o else m.hp.get b:=Tr.get_put ..
@[simp] theorem bump_nx (m:Mem) (n:Nat):(bump m n).nx=m.nx+n:=rfl
@[simp] theorem bump_fl (m:Mem) (n:Nat):(bump m n).fl=m.fl:=rfl
@[simp] theorem bump_hp (m:Mem) (n:Nat):(bump m n).hp=m.hp:=rfl
@[simp] theorem setFl_nx (m:Mem) (n:Nat):(setFl m n).nx=m.nx:=rfl
@[simp] theorem setFl_fl (m:Mem) (n:Nat):(setFl m n).fl=n:=rfl
@[simp] theorem setFl_hp (m:Mem) (n:Nat):(setFl m n).hp=m.hp:=rfl
@[simp] theorem addO_nx (m:Mem) (b:Nat) (o:AObj):(addO m b o).nx=m.nx:=rfl
@[simp] theorem addO_fl (m:Mem) (b:Nat) (o:AObj):(addO m b o).fl=m.fl:=rfl
theorem addO_get (m:Mem) (b:Nat) (o:AObj) (b':Nat):(addO m b o).hp.get b'=if b'=b then some o else m.hp.get b':=Tr.get_put ..
@[simp] theorem wr_nx (m:Mem) (b o:Nat) (l:List Value):(wr m b o l).nx=m.nx:=by unfold wr; split <;> rfl
@[simp] theorem wr_fl (m:Mem) (b o:Nat) (l:List Value):(wr m b o l).fl=m.fl:=by unfold wr; split <;> rfl
theorem rd_congr {m m':Mem} {b o:Nat} (h:m'.hp.get b=m.hp.get b):rd m' b o=rd m b o:=by unfold rd; rw [h]
def Row (m:Mem) (b:Nat) (l:List Value) (e:TypeId) (x:Bool):Prop:=
 ∃ c,m.hp.get b=some (.cells c l.length e x)∧∀ i,i < l.length→c.get i=l[i]?
theorem Row.of_row {m:Mem} {b:Nat} {l:List Value} {e:TypeId} {x:Bool} (h:m.hp.get b=some (row l e x)):Row m b l e x:=
 ⟨_,h,fun i hi=>by
  have:∀ (l:List Value) (c:Tr Value) (k i:Nat),(writeL c l k).get i=if k≤i∧i < k+l.length then l[i - k]? else c.get i:=by
   intro l
   induction l with
   | nil=>intro c k i; rw [if_neg (by simp)]; rfl
   | cons v r ih=>
    intro c k i
    show (writeL (c.put k v) r (k+1)).get i=_
    rw [ih,Tr.get_put]
    by_cases h1:i=k
    ·subst h1
     rw [if_neg (by omega),if_pos rfl,if_pos (by simp)]; simp
    ·rw [if_neg h1]
     by_cases h2:k+1≤i∧i < k+1+r.length
     ·rw [if_pos h2,if_pos (by simp; omega)]
      rw [show i - k=(i - (k+1))+1 by omega]; simp
     ·rw [if_neg h2,if_neg (by simp; omega)]
  rw [this,if_pos (by omega)]; simp⟩
theorem Row.congr {m m':Mem} {b:Nat} {l:List Value} {e:TypeId} {x:Bool} (h:Row m b l e x) (hg:m'.hp.get b=m.hp.get b):Row m' b l e x:=by
 obtain ⟨c,h1,h2⟩:=h
 exact ⟨c,hg.trans h1,h2⟩
theorem Row.rd {m:Mem} {b o:Nat} {l:List Value} {e:TypeId} {x:Bool} (h:Row m b l e x):rd m b o=l[o]?:=by
 obtain ⟨c,h1,h2⟩:=h
 by_cases ho:o < l.length
 ·rw [rd_of_cells (by rw [h1]; rfl) ho,h2 o ho]
 ·unfold AX.rd
  rw [h1]
  have:Nat.blt o l.length=false:=by
   cases hb:Nat.blt o l.length with
   | false=>rfl
   | true=>exact absurd (Nat.le_of_ble_eq_true hb) (by omega)
  simp only [rowO,this]
  rw [List.getElem?_eq_none (by omega)]
theorem Row.okW {m:Mem} {b o n:Nat} {l:List Value} {e:TypeId} {x:Bool} (h:Row m b l e x) (hf:m.fl≤b) (hn:o+n≤l.length):okW m b o n:=by
 obtain ⟨c,h1,h2⟩:=h
 exact ⟨hf,c,_,e,x,h1,hn⟩
theorem writeL_get':∀ (l:List Value) (c:Tr Value) (k i:Nat),(writeL c l k).get i=if k≤i∧i < k+l.length then l[i - k]? else c.get i:=by
 intro l
 induction l with
 | nil=>intro c k i; rw [if_neg (by simp)]; rfl
 | cons v r ih=>
  intro c k i
  show (writeL (c.put k v) r (k+1)).get i=_
  rw [ih,Tr.get_put]
  by_cases h1:i=k
  ·subst h1
   rw [if_neg (by omega),if_pos rfl,if_pos (by simp)]; simp
  ·rw [if_neg h1]
   by_cases h2:k+1≤i∧i < k+1+r.length
   ·rw [if_pos h2,if_pos (by simp; omega)]
    rw [show i - k=(i - (k+1))+1 by omega]; simp
   ·rw [if_neg h2,if_neg (by simp; omega)]
def over (l:List Value) (o:Nat) (vs:List Value):List Value:=l.take o ++ vs ++ l.drop (o+vs.length)
theorem over_length {l:List Value} {o:Nat} {vs:List Value} (h:o+vs.length≤l.length):(over l o vs).length=l.length:=by
 simp [over]; omega
theorem over_get {l:List Value} {o:Nat} {vs:List Value} (h:o+vs.length≤l.length) (i:Nat):(over l o vs)[i]? = if o≤i∧i < o+vs.length then vs[i - o]? else l[i]?:=by
 unfold over
 by_cases h1:i < o
 ·rw [if_neg (by omega),List.append_assoc,List.getElem?_append_left (by simp; omega),List.getElem?_take,if_pos h1]
 ·by_cases h2:i < o+vs.length
  ·rw [if_pos (by omega),List.append_assoc,List.getElem?_append_right (by simp; omega),List.getElem?_append_left (by simp; omega)]
   congr 1; simp; omega
  ·rw [if_neg (by omega),List.getElem?_append_right (by simp; omega),List.getElem?_drop]
   congr 1; simp; omega
theorem wr_get {m:Mem} {b o:Nat} {l:List Value} {b':Nat} (h:b'≠b):(wr m b o l).hp.get b'=m.hp.get b':=by
 unfold wr
 split
 ·show (m.hp.put b _).get b'=_; rw [Tr.get_put,if_neg h]
 ·rfl
theorem Row.wr {m:Mem} {b o:Nat} {l vs:List Value} {e:TypeId} {x:Bool} (h:Row m b l e x) (hn:o+vs.length≤l.length):Row (wr m b o vs) b (over l o vs) e x:=by
 obtain ⟨c,h1,h2⟩:=h
 refine ⟨writeL c vs o,?_,fun i hi=>?_⟩
 ·unfold AX.wr
  simp only [h1]
  show (m.hp.put b _).get b=_
  rw [Tr.get_put,if_pos rfl,over_length hn]
 ·rw [over_length hn] at hi
  rw [writeL_get',over_get hn,h2 i hi]
theorem Row.newO {m:Mem} {l:List Value} {e:TypeId} {x:Bool}:Row (newO m (row l e x)) m.nx l e x:=
 Row.of_row (by rw [newO_get,if_pos rfl])
@[simp] theorem rd_bump (m:Mem) (n b o:Nat):rd (bump m n) b o=rd m b o:=rfl
@[simp] theorem rd_setFl (m:Mem) (n b o:Nat):rd (setFl m n) b o=rd m b o:=rfl
structure Fr (m m':Mem) (S:List Nat):Prop where
 nx:m.nx≤m'.nx
 fl:m'.fl=m.fl
 get:∀ b,b < m.nx→b∉S→m'.hp.get b=m.hp.get b
theorem Fr.refl (m:Mem) (S:List Nat):Fr m m S:=⟨Nat.le_refl _,rfl,fun _ _ _=>rfl⟩
theorem Fr.trans {m m1 m2:Mem} {S S':List Nat} (h:Fr m m1 S) (k:Fr m1 m2 S') (hs:∀ b∈S',b∈S∨m.nx≤b):Fr m m2 S:=
 ⟨Nat.le_trans h.nx k.nx,k.fl.trans h.fl,fun b hb hn=>(k.get b (Nat.lt_of_lt_of_le hb h.nx) (fun hx=>by
  rcases hs b hx with h1 | h1
  ·exact hn h1
  ·omega)).trans (h.get b hb hn)⟩
theorem Fr.mono {m m':Mem} {S S':List Nat} (h:Fr m m' S) (hs:∀ b∈S,b∈S'∨m.nx≤b):Fr m m' S':=
 ⟨h.nx,h.fl,fun b hb hn=>h.get b hb (fun hx=>by
  rcases hs b hx with h1 | h1
  ·exact hn h1
  ·omega)⟩
theorem Fr.newO {m m':Mem} {S:List Nat} {ob:AObj} (h:Fr m m' S):Fr m (newO m' ob) S:=
 h.trans (S':=[]) ⟨Nat.le_succ _,rfl,fun b hb _=>by rw [newO_get,if_neg (by omega)]⟩ (fun b hb=>by cases hb)
theorem Fr.wr {m m':Mem} {S:List Nat} {b o:Nat} {l:List Value} (h:Fr m m' S) (hb:b∈S∨m.nx≤b):Fr m (wr m' b o l) S:=
 h.trans (S':=[b]) ⟨by simp,by simp,fun b' _ hn=>wr_get (by simpa using hn)⟩ (fun b' hb'=>by simp at hb'; subst hb'; exact hb)
theorem Fr.addO {m m':Mem} {S:List Nat} {b:Nat} {ob:AObj} (h:Fr m m' S) (hb:b∈S∨m.nx≤b):Fr m (addO m' b ob) S:=
 h.trans (S':=[b]) ⟨by simp,by simp,fun b' _ hn=>by rw [addO_get,if_neg (by simpa using hn)]⟩ (fun b' hb'=>by simp at hb'; subst hb'; exact hb)
theorem Fr.row {m m':Mem} {S:List Nat} (h:Fr m m' S) {b:Nat} {l:List Value} {e:TypeId} {x:Bool} (hr:Row m b l e x) (hb:b < m.nx) (hn:b∉S):Row m' b l e x:=hr.congr (h.get b hb hn)
def Wf (m:Mem):Prop:=m.fl≤m.nx∧∀ b,m.nx≤b→m.hp.get b=none
theorem Wf.lt {m:Mem} (h:Wf m) {b:Nat} {o:AObj} (hb:m.hp.get b=some o):b < m.nx:=by
 by_cases hc:b < m.nx
 ·exact hc
 ·rw [h.2 b (by omega)] at hb; cases hb
theorem Wf.row {m:Mem} (h:Wf m) {b:Nat} {l:List Value} {e:TypeId} {x:Bool} (hr:Row m b l e x):b < m.nx:=by
 obtain ⟨c,h1,_⟩:=hr; exact h.lt h1
theorem Wf.rd {m:Mem} (h:Wf m) {b o:Nat} {v:Value} (hr:rd m b o=some v):b < m.nx:=by
 obtain ⟨c,n,h1,_⟩:=rd_cells hr
 cases hg:m.hp.get b with
 | none=>rw [hg] at h1; cases h1
 | some o=>exact h.lt hg
theorem Wf.newO {m:Mem} (h:Wf m) {ob:AObj}:Wf (newO m ob):=
 ⟨Nat.le_trans h.1 (Nat.le_succ _),fun b hb=>by rw [newO_get,if_neg (by simp at hb; omega),h.2 b (by simp at hb; omega)]⟩
theorem Wf.bump {m:Mem} (h:Wf m) {n:Nat}:Wf (bump m n):=⟨Nat.le_trans h.1 (Nat.le_add_right _ _),fun b hb=>h.2 b (by simp at hb; omega)⟩
theorem wr_none {m:Mem} {b o:Nat} {l:List Value} {b':Nat} (h:m.hp.get b'=none):(wr m b o l).hp.get b'=none:=by
 by_cases e:b'=b
 ·subst e; unfold wr; rw [h]; exact h
 ·rw [wr_get e,h]
theorem Wf.wr {m:Mem} (h:Wf m) {b o:Nat} {l:List Value}:Wf (wr m b o l):=⟨by simpa using h.1,fun b' hb=>wr_none (h.2 b' (by simpa using hb))⟩
theorem Wf.addO {m:Mem} (h:Wf m) {b:Nat} {ob:AObj} (hb:b < m.nx):Wf (addO m b ob):=
 ⟨h.1,fun b' hb'=>by simp at hb'; rw [addO_get,if_neg (by omega),h.2 b' hb']⟩
theorem Wf.at {m m':Mem} (h:Wf m) {r:Nat} (hr:r < m.nx) (hn:m'.nx=m.nx) (hf:m'.fl=m.fl) (hg:∀ b,b≠r→m'.hp.get b=m.hp.get b):Wf m':=
 ⟨by rw [hn,hf]; exact h.1,fun b hb=>by rw [hn] at hb; rw [hg b (by omega)]; exact h.2 b hb⟩
theorem splitB_iff {b:Bool} {t e:Prop}:splitB b t e↔(b=true→t)∧(b=false→e):=by
 cases b <;> simp [splitB]
theorem splitB_true {t e:Prop}:splitB true t e↔t:=Iff.rfl
theorem splitB_false {t e:Prop}:splitB false t e↔e:=Iff.rfl
@[simp] theorem mBind_iff {m:Mem} {K:Mem→Prop}:mBind m K↔K m:=⟨fun h=>h m rfl,fun h _ e=>e ▸ h⟩
@[simp] theorem vPtr_some {b o:Nat} {K:Nat→Nat→Prop}:vPtr (some ⟨b,o,none⟩) K↔K b o:=Iff.rfl
@[simp] theorem vPtr_none {K:Nat→Nat→Prop}:vPtr none K↔False:=Iff.rfl
theorem ltI_true {x y:Int}:ltI x y=true↔x < y:=by simp [ltI]
theorem ltI_false {x y:Int}:ltI x y=false↔y≤x:=by simp [ltI]
theorem leI_true {x y:Int}:leI x y=true↔x≤y:=by simp [leI]
theorem leI_false {x y:Int}:leI x y=false↔y < x:=by simp [leI]
theorem eqI_true {x y:Int}:eqI x y=true↔x=y:=by simp [eqI]
theorem eqI_false {x y:Int}:eqI x y=false↔x≠y:=by simp [eqI]
theorem neI_true {x y:Int}:neI x y=true↔x≠y:=by simp [neI]
theorem neI_false {x y:Int}:neI x y=false↔x=y:=by simp [neI]
theorem wrapI_fit {k:IntKind} {r:Int} (h1:k.min≤r) (h2:r≤k.max):wrapI k r=r:=by
 unfold wrapI fitsI; simp [h1,h2]
theorem wrapI_64 {r:Int} (h1:-9223372036854775808≤r) (h2:r≤9223372036854775807):wrapI .i64 r=r:=wrapI_fit h1 h2
theorem addI_64 {x y:Int} (h1:-9223372036854775808≤x+y) (h2:x+y≤9223372036854775807):addI .i64 x y=x+y:=wrapI_64 h1 h2
theorem subI_64 {x y:Int} (h1:-9223372036854775808≤x - y) (h2:x - y≤9223372036854775807):subI .i64 x y=x - y:=wrapI_64 h1 h2
theorem mulI_64 {x y:Int} (h1:-9223372036854775808≤x*y) (h2:x*y≤9223372036854775807):mulI .i64 x y=x*y:=wrapI_64 h1 h2
theorem Row.rowAt {m:Mem} {b o k:Nat} {l:List Value} {e:TypeId} {x:Bool} (h:Row m b l e x) (hk:o+k≤l.length):rowAtL m ⟨b,o,none⟩ k=some ((l.drop o).take k):=by
 obtain ⟨c,h1,h2⟩:=h
 rw [rowAtL_eq,h1]
 simp only [rowO,Nat.ble_eq_true_of_le hk]
 have hl:((l.drop o).take k).length=k:=by simp; omega
 have:=readL_of (c:=c) (vs:=(l.drop o).take k) (i:=o) (fun j v e=>by
  have hj:j < k:=by rw [← hl]; exact (List.getElem?_eq_some_iff.1 e).1
  rw [h2 (o+j) (by omega),← e,List.getElem?_take,if_pos hj,List.getElem?_drop])
 rwa [hl] at this
theorem Row.rowAll {m:Mem} {b:Nat} {l:List Value} {e:TypeId} {x:Bool} (h:Row m b l e x):rowAtL m ⟨b,0,none⟩ l.length=some l:=by
 have:=h.rowAt (o:=0) (k:=l.length) (by omega)
 simpa using this
def Grow (m:Mem) (a:Option Addr) (n c s:Nat) (e:TypeId) (l:List Value):Prop:=
 l.length=n*s∧((a=none∧n=0∧c=0)∨∃ b,a=some ⟨b,0,none⟩∧c=n∧m.fl≤b∧Row m b l e true)
theorem Grow.nil (m:Mem) (s:Nat) (e:TypeId):Grow m none 0 0 s e []:=⟨by simp,.inl ⟨rfl,rfl,rfl⟩⟩
theorem append_grow {cx:Cx} {m:Mem} {a:Option Addr} {n c s k:Nat} {e t tx:TypeId} {ux:TypeDesc} {i:TypeInfo} {z x:Value} {l new:List Value} (hG:Grow m a n c s e l)
  (ht:cx.un.get t=some (.slice e)) (htx:cx.un.get tx=some ux) (hux:isRowD ux=true) (hi:cx.ty.get e=some i) (his:i.size=s) (hz:zeroT cx e=some z) (hzl:(cellsL z).length=s) (hs:0 < s)
  (hx:lenV x=some k) (hf:firstL m s k x=some new) (hn:new.length=k*s) (ho:new.all one1=true) (hk:0 < k) (hb1:(2*(n+k)+192)*i.bytes≤140737488355328) (hb2:n+k≤1099511627776) :
  ∃ m',appendA cx m [t,tx] [.slice a n c,x]=some (.slice (some ⟨m.nx,0,none⟩) (n+k) (n+k),m')∧m'.nx=m.nx+1∧m'.fl=m.fl∧Row m' m.nx (l ++ new) e true ∧
   ∀ b',b'≠m.nx→(∀ b,a=some ⟨b,0,none⟩→b'≠b)→m'.hp.get b'=m.hp.get b':=by
 obtain ⟨hl,hG⟩:=hG
 have hcn:Nat.ble (n+k) c=false:=by
  rcases hG with ⟨_,h1,h2⟩ | ⟨b,_,h2,_⟩
  ·cases h:Nat.ble (n+k) c with
   | false=>rfl
   | true=>have:=Nat.le_of_ble_eq_true h; omega
  ·cases h:Nat.ble (n+k) c with
   | false=>rfl
   | true=>have:=Nat.le_of_ble_eq_true h; omega
 subst his
 have hfirst:firstL m i.size n (.slice a n c)=some l:=by
  rcases hG with ⟨rfl,rfl,rfl⟩ | ⟨b,rfl,rfl,_,hr⟩
  ·simp only [firstL]; congr 1; exact (List.length_eq_zero_iff.1 (by simpa using hl)).symm
  ·cases c with
   | zero=>simp only [firstL]; congr 1; exact (List.length_eq_zero_iff.1 (by simpa using hl)).symm
   | succ c=>simp only [firstL]; rw [← hl]; exact hr.rowAll
 have hgu:∃ m1,giveUp m a e i.size c=some m1∧m1.nx=m.nx∧m1.fl=m.fl∧∀ b',(∀ b,a=some ⟨b,0,none⟩→b'≠b)→m1.hp.get b'=m.hp.get b':=by
  rcases hG with ⟨rfl,rfl,rfl⟩ | ⟨b,rfl,rfl,hfl,tr,hr,_⟩
  ·exact ⟨m,rfl,rfl,rfl,fun _ _=>rfl⟩
  ·refine ⟨{ m with hp:=m.hp.del b },?_,rfl,rfl,fun b' hb'=>?_⟩
   ·unfold giveUp
    simp only [hr]
    have e1:Nat.beq e e=true:=Nat.beq_refl e
    have e2:Nat.beq (0+c*i.size) l.length=true:=by rw [hl,Nat.zero_add]; exact Nat.beq_refl _
    simp only [e1,e2,Nat.ble_eq_true_of_le hfl]
   ·show (m.hp.del b).get b'=_
    rw [Tr.get_del,if_neg (hb' b rfl)]
 obtain ⟨m1,g1,g2,g3,g4⟩:=hgu
 refine ⟨newO m1 (row (l ++ new) e true),?_,by simp [g2],by simp [g3],?_,fun b' h1 h2=>?_⟩
 ·unfold appendA
  simp only [ht,htx,hi,hx,hux,hf,hcn]
  have e1:(Nat.beq new.length (k*i.size) && Nat.blt 0 i.size && new.all one1)=true:=by
   rw [hn,ho,show Nat.beq (k*i.size) (k*i.size)=true from Nat.beq_refl _,show Nat.blt 0 i.size=true from Nat.ble_eq_true_of_le hs]; rfl
  have e2:(Nat.ble ((2*(n+k)+192)*i.bytes) 140737488355328 && Nat.ble (n+k) 1099511627776)=true:=by
   rw [Nat.ble_eq_true_of_le hb1,Nat.ble_eq_true_of_le hb2]; rfl
  have e3:(Nat.beq l.length (n*i.size) && Nat.beq (cellsL z).length i.size)=true:=by
   rw [hl,hzl,show Nat.beq (n*i.size) (n*i.size)=true from Nat.beq_refl _,show Nat.beq i.size i.size=true from Nat.beq_refl _]; rfl
  simp only [e1,e2,hfirst,hz,g1,e3]
  show some _=_
  rw [← g2]
  rfl
 ·rw [← g2]; exact Row.newO
 ·rw [newO_get,if_neg (by rw [g2]; exact h1),g4 b' h2]
def MapIs (k:IntKind) (es:List MapEntry) (f:Int→Option Value):Prop:=
 (∀ e∈es,∃ n,e.key = .int k n)∧∀ n,∃ r,findK (.int k) (.int k n) es 0=some r∧r.map (·.2)=f n
theorem MapIs.nil (k:IntKind):MapIs k [] fun _=>none:=⟨(fun _ he=>nomatch he),(fun _=>⟨none,rfl,rfl⟩)⟩
theorem findK_cons {k:IntKind} {n j:Int} {e:MapEntry} {es:List MapEntry} {i:Nat} (he:e.key = .int k j):findK (.int k) (.int k n) (e :: es) i=if n=j then some (some (i,e.val)) else findK (.int k) (.int k n) es (i+1):=by
 simp only [findK,he,keyKind,keySame,Bool.and_self,decide_true]
 by_cases h:n=j
 ·rw [if_pos h]; simp [h]
 ·rw [if_neg h]; simp [h]
theorem findK_shift {k:IntKind} {n:Int}:∀ {es:List MapEntry} {i:Nat},(∀ e∈es,∃ n,e.key = .int k n)→findK (.int k) (.int k n) es i=(findK (.int k) (.int k n) es 0).map (·.map fun x=>(x.1+i,x.2))
 | [],i,_=>rfl
 | e :: r,i,h=>by
  obtain ⟨j,hj⟩:=h e (List.mem_cons_self ..)
  have hr:∀ e∈r,∃ n,e.key = .int k n:=fun e he=>h e (List.mem_cons_of_mem _ he)
  rw [findK_cons hj,findK_cons hj]
  by_cases hn:n=j
  ·rw [if_pos hn,if_pos hn]; simp
  ·rw [if_neg hn,if_neg hn,findK_shift hr (i:=i+1),findK_shift hr (i:=0+1)]
   cases findK (.int k) (.int k n) r 0 with
   | none=>rfl
   | some o=>cases o with
    | none=>rfl
    | some p=>simp; omega
theorem findK_append {k:IntKind} {n j:Int} {v:Value} {born:Nat}:∀ {es:List MapEntry} {i:Nat},(∀ e∈es,∃ n,e.key = .int k n) →
  findK (.int k) (.int k n) (es ++ [{ key:=.int k j,val:=v,born:=born }]) i=match findK (.int k) (.int k n) es i with
   | some (some p)=>some (some p)
   | some none=>if n=j then some (some (i+es.length,v)) else some none
   | none=>none
 | [],i,_=>by rw [List.nil_append,findK_cons rfl]; simp [findK]
 | e :: r,i,h=>by
  obtain ⟨q,hq⟩:=h e (List.mem_cons_self ..)
  have hr:∀ e∈r,∃ n,e.key = .int k n:=fun e he=>h e (List.mem_cons_of_mem _ he)
  rw [List.cons_append,findK_cons hq,findK_cons hq]
  by_cases hn:n=q
  ·rw [if_pos hn,if_pos hn]
  ·rw [if_neg hn,if_neg hn,findK_append hr]
   rw [show i+1+r.length=i+(e :: r).length by simp; omega]
theorem findK_modify {k:IntKind} {n j:Int} {v:Value}:∀ {es:List MapEntry} {p:Nat} {old:Value},(∀ e∈es,∃ n,e.key = .int k n)→findK (.int k) (.int k j) es 0=some (some (p,old)) →
  (findK (.int k) (.int k n) (es.modify p fun e=>{ e with key:=.int k j,val:=v }) 0=if n=j then some (some (p,v)) else findK (.int k) (.int k n) es 0)∧∀ e∈(es.modify p fun e=>{ e with key:=.int k j,val:=v }),∃ n,e.key = .int k n
 | [],p,old,_,h=>by cases h
 | e :: r,p,old,hk,h=>by
  obtain ⟨q,hq⟩:=hk e (List.mem_cons_self ..)
  have hr:∀ e∈r,∃ n,e.key = .int k n:=fun e he=>hk e (List.mem_cons_of_mem _ he)
  rw [findK_cons hq] at h
  by_cases hj:j=q
  ·rw [if_pos hj] at h
   cases h
   subst hj
   refine ⟨?_,?_⟩
   ·simp only [List.modify_zero_cons]
    rw [findK_cons rfl,findK_cons hq]
    by_cases hn:n=j
    ·rw [if_pos hn,if_pos hn]
    ·rw [if_neg hn,if_neg hn,if_neg hn]
   ·intro e' he'
    simp only [List.modify_zero_cons,List.mem_cons] at he'
    rcases he' with rfl | he'
    ·exact ⟨j,rfl⟩
    ·exact hr e' he'
  ·rw [if_neg hj,findK_shift hr] at h
   cases hf:findK (.int k) (.int k j) r 0 with
   | none=>rw [hf] at h; cases h
   | some o=>
    cases o with
    | none=>rw [hf] at h; cases h
    | some x=>
     obtain ⟨p',v'⟩:=x
     rw [hf] at h
     simp at h
     obtain ⟨rfl,rfl⟩:=h
     obtain ⟨h1,h2⟩:=findK_modify (n:=n) (v:=v) hr hf
     refine ⟨?_,?_⟩
     ·simp only [List.modify_succ_cons]
      rw [findK_cons hq,findK_cons hq,findK_shift h2,h1,findK_shift hr]
      by_cases hn:n=j
      ·rw [if_pos hn,if_pos hn,if_neg (fun e=>hj (hn ▸ e))]; rfl
      ·rw [if_neg hn]
       by_cases hq2:n=q
       ·rw [if_pos hq2]; simp [hq2,Ne.symm hj]
       ·rw [if_neg hq2,if_neg hq2,if_neg hn,findK_shift hr (i:=0+1)]
        cases findK (.int k) (.int k n) r 0 with
        | none=>rfl
        | some o=>cases o <;> rfl
     ·intro e' he'
      simp only [List.modify_succ_cons,List.mem_cons] at he'
      rcases he' with rfl | he'
      ·exact ⟨q,hq⟩
      ·exact h2 e' he'
def updI (f:Int→Option Value) (j:Int) (v:Value):Int→Option Value:=fun n=>if n=j then some v else f n
def StampP (es:List MapEntry) (clock:Nat):Prop:=(∀ e∈es,e.born < clock)∧(es.map (·.born)).Nodup∧(es.map (·.key)).Nodup
theorem findK_none {k:IntKind} {n:Int}:∀ {es:List MapEntry} {i:Nat},(∀ e∈es,∃ n,e.key = .int k n)→findK (.int k) (.int k n) es i=some none→∀ e∈es,e.key≠.int k n
 | [],_,_,_,_,he=>nomatch he
 | e :: r,i,h,hf,e',he'=>by
  obtain ⟨q,hq⟩:=h e (List.mem_cons_self ..)
  rw [findK_cons hq] at hf
  by_cases hn:n=q
  ·rw [if_pos hn] at hf; cases hf
  ·rw [if_neg hn] at hf
   rcases List.mem_cons.1 he' with rfl | he'
   ·rw [hq]; intro e1; injection e1 with _ e1; exact hn e1.symm
   ·exact findK_none (fun e he=>h e (List.mem_cons_of_mem _ he)) hf e' he'
theorem modify_keys {k:IntKind} {j:Int} {v old:Value}:∀ {es:List MapEntry} {p:Nat},(∀ e∈es,∃ n,e.key = .int k n)→findK (.int k) (.int k j) es 0=some (some (p,old)) →
  (es.modify p fun e=>{ e with key:=.int k j,val:=v }).map (·.key)=es.map (·.key)∧(es.modify p fun e=>{ e with key:=.int k j,val:=v }).map (·.born)=es.map (·.born)
 | [],p,_,h=>by cases h
 | e :: r,p,hk,h=>by
  obtain ⟨q,hq⟩:=hk e (List.mem_cons_self ..)
  have hr:∀ e∈r,∃ n,e.key = .int k n:=fun e he=>hk e (List.mem_cons_of_mem _ he)
  rw [findK_cons hq] at h
  by_cases hj:j=q
  ·rw [if_pos hj] at h
   cases h
   subst hj
   simp only [List.modify_zero_cons,List.map_cons,hq,and_self]
  ·rw [if_neg hj,findK_shift hr] at h
   cases hf:findK (.int k) (.int k j) r 0 with
   | none=>rw [hf] at h; cases h
   | some o=>
    cases o with
    | none=>rw [hf] at h; cases h
    | some x=>
     obtain ⟨p',v'⟩:=x
     rw [hf] at h
     simp at h
     obtain ⟨rfl,rfl⟩:=h
     obtain ⟨h1,h2⟩:=modify_keys (v:=v) hr hf
     simp only [List.modify_succ_cons,List.map_cons]
     exact ⟨by rw [h1],by rw [h2]⟩
def IMap (m:Mem) (r:Nat) (k:IntKind) (f:Int→Option Value):Prop:=∃ es clock,m.hp.get r=some (.map es clock)∧MapIs k es f∧StampP es clock
theorem IMap.congr {m m':Mem} {r:Nat} {k:IntKind} {f:Int→Option Value} (h:IMap m r k f) (hg:m'.hp.get r=m.hp.get r):IMap m' r k f:=by
 obtain ⟨es,cl,h1,h2⟩:=h; exact ⟨es,cl,hg.trans h1,h2⟩
theorem IMap.newO {m:Mem} {k:IntKind}:IMap (newO m (.map [] 0)) m.nx k fun _=>none:=⟨[],0,by rw [newO_get,if_pos rfl],MapIs.nil k,(fun _ he=>nomatch he),List.nodup_nil,List.nodup_nil⟩
theorem IMap.look {cx:Cx} {m:Mem} {r:Nat} {k:IntKind} {f:Int→Option Value} (h:IMap m r k f) {t et:TypeId} {n:Int} (hk:mapKey cx t (.int k n)=some (.int k,et)) {ok:Bool} {z:Value} (hz:zeroT cx et=some z) :
  lookupA cx m t (.map (some r)) (.int k n) ok=some (match f n with | some v=>okV ok v true | none=>okV ok z false):=by
 obtain ⟨es,cl,h1,⟨h2,h3⟩,_⟩:=h
 obtain ⟨q,hq,he⟩:=h3 n
 unfold lookupA
 simp only [hk,h1,lookupIn,hq]
 rw [← he]
 cases q with
 | none=>simp [hz]
 | some p=>rfl
theorem IMap.update {cx:Cx} {m:Mem} {r:Nat} {k:IntKind} {f:Int→Option Value} (h:IMap m r k f) (hf:m.fl≤r) {t et:TypeId} {n:Int} (hk:mapKey cx t (.int k n)=some (.int k,et)) (v:Value) :
  ∃ m',mapUpdateA cx m t (.map (some r)) (.int k n) v=some m'∧IMap m' r k (updI f n v)∧m'.nx=m.nx∧m'.fl=m.fl∧∀ b,b≠r→m'.hp.get b=m.hp.get b:=by
 obtain ⟨es,cl,h1,⟨h2,h3⟩,s1,s2,s3⟩:=h
 obtain ⟨q,hq,he⟩:=h3 n
 cases q with
 | none=>
  refine ⟨{ m with hp:=m.hp.put r (.map (es ++ [{ key:=.int k n,val:=v,born:=cl }]) (cl+1)) },?_,⟨_,_,by show (m.hp.put r _).get r=_; rw [Tr.get_put,if_pos rfl],⟨?_,fun j=>?_⟩,?_,?_,?_⟩,rfl,rfl,fun b hb=>by show (m.hp.put r _).get b=_; rw [Tr.get_put,if_neg hb]⟩
  ·unfold mapUpdateA
   simp only [hk,h1,hq,setO,Nat.ble_eq_true_of_le hf]
  ·intro e' he'
   rcases List.mem_append.1 he' with h | h
   ·exact h2 e' h
   ·simp at h; subst h; exact ⟨n,rfl⟩
  ·obtain ⟨q',hq',he'⟩:=h3 j
   rw [findK_append h2,hq']
   unfold updI
   cases q' with
   | none=>
    by_cases hj:j=n
    ·subst hj; exact ⟨_,by rw [if_pos rfl],by rw [if_pos rfl]; rfl⟩
    ·exact ⟨_,by rw [if_neg hj],by rw [if_neg hj]; exact he'⟩
   | some p=>
    have hne:j≠n:=by rintro rfl; rw [hq] at hq'; cases hq'
    exact ⟨_,rfl,by rw [if_neg hne]; exact he'⟩
  ·intro e' he'
   rcases List.mem_append.1 he' with h | h
   ·exact Nat.lt_succ_of_lt (s1 e' h)
   ·simp at h; subst h; exact Nat.lt_succ_self _
  ·rw [List.map_append]
   refine List.nodup_append.2 ⟨s2,by simp,fun a ha b hb e=>?_⟩
   obtain ⟨x,hx,rfl⟩:=List.mem_map.1 ha
   simp at hb
   have:=s1 x hx
   omega
  ·rw [List.map_append]
   refine List.nodup_append.2 ⟨s3,by simp,fun a ha b hb e=>?_⟩
   obtain ⟨x,hx,rfl⟩:=List.mem_map.1 ha
   simp at hb
   exact findK_none h2 hq x hx (e.trans hb)
 | some p=>
  obtain ⟨i,old⟩:=p
  refine ⟨{ m with hp:=m.hp.put r (.map (es.modify i fun e=>{ e with key:=.int k n,val:=v }) cl) },?_,⟨_,_,by show (m.hp.put r _).get r=_; rw [Tr.get_put,if_pos rfl],⟨(findK_modify (n:=n) h2 hq).2,fun j=>?_⟩,?_,?_,?_⟩,rfl,rfl,fun b hb=>by show (m.hp.put r _).get b=_; rw [Tr.get_put,if_neg hb]⟩
  ·unfold mapUpdateA
   simp only [hk,h1,hq,setO,Nat.ble_eq_true_of_le hf]
  ·rw [(findK_modify (n:=j) h2 hq).1]
   unfold updI
   by_cases hj:j=n
   ·subst hj; exact ⟨_,by rw [if_pos rfl],by rw [if_pos rfl]; rfl⟩
   ·obtain ⟨q',hq',he'⟩:=h3 j
    exact ⟨q',by rw [if_neg hj]; exact hq',by rw [if_neg hj]; exact he'⟩
  ·intro e' he'
   have:e'.born∈(es.modify i fun e=>{ e with key:=.int k n,val:=v }).map (·.born):=List.mem_map_of_mem he'
   rw [(modify_keys h2 hq).2] at this
   obtain ⟨x,hx,e⟩:=List.mem_map.1 this
   rw [← e]; exact s1 x hx
  ·rw [(modify_keys h2 hq).2]; exact s2
  ·rw [(modify_keys h2 hq).1]; exact s3
end Go.AX
namespace Go.AX
variable {cx:Cx}
structure Nice (u u':Mem):Prop where
 wf:Wf u'
 fl:u'.fl=u.fl
 nx:u.nx≤u'.nx
section
variable {u:Mem}
theorem Nice.refl (hw:Wf u):Nice u u:=⟨hw,rfl,Nat.le_refl _⟩
theorem Nice.trans {u1 u2:Mem} (h:Nice u u1) (k:Nice u1 u2):Nice u u2:=⟨k.wf,k.fl.trans h.fl,Nat.le_trans h.nx k.nx⟩
theorem Nice.put (hw:Wf u) {b:Nat} (hb:b < u.nx) (o:AObj):Nice u { u with hp:=u.hp.put b o }:=⟨hw.addO hb,rfl,Nat.le_refl _⟩
theorem Nice.new (hw:Wf u) (o:AObj):Nice u { hp:=u.hp.put u.nx o,nx:=u.nx+1,fl:=u.fl }:=⟨hw.newO,rfl,Nat.le_succ _⟩
theorem Nice.del (hw:Wf u) (b:Nat):Nice u { u with hp:=u.hp.del b }:=⟨⟨hw.1,fun b' hb'=>by
 show (u.hp.del b).get b'=none
 rw [Tr.get_del]
 split
 ·rfl
 ·exact hw.2 b' hb'⟩,rfl,Nat.le_refl _⟩
theorem storeL_nice (hw:Wf u) {a:Addr} {l:List Value} {u':Mem} (e:storeL u a l=some u'):Nice u u':=by
 unfold storeL at e
 split at e
 ·cases e
 ·split at e
  ·rename_i hg
   split at e
   ·cases e; exact Nice.put hw (hw.lt hg) _
   ·cases e
  ·cases e
theorem storeT_nice (hw:Wf u) {t:TypeId} {a:Addr} {v:Value} {u':Mem} (e:storeT cx u t a v=some u'):Nice u u':=by
 unfold storeT at e
 split at e
 ·split at e
  ·exact storeL_nice hw e
  ·cases e
 ·cases e
theorem setO_nice (hw:Wf u) {b:Nat} {o ob:AObj} {u':Mem} (hb:u.hp.get b=some ob) (e:setO u b o=some u'):Nice u u':=by
 unfold setO at e
 split at e
 ·cases e; exact Nice.put hw (hw.lt hb) _
 ·cases e
theorem newCells_nice (hw:Wf u) (l:List Value) (e:TypeId) (x:Bool):Nice u (newCells u l e x).2:=Nice.new hw _
theorem buildSliceA_nice (hw:Wf u) {t:TypeId} {n:Nat} {ps:List (Nat×Value)} {v:Value} {u':Mem} (e:buildSliceA cx u t n ps=some (v,u')):Nice u u':=by
 unfold buildSliceA at e
 split at e
 ·split at e
  ·split at e
   ·split at e
    ·cases e; exact newCells_nice hw _ _ _
    ·cases e
   ·cases e
  ·cases e
 ·cases e
theorem makeSliceA_nice (hw:Wf u) {t:TypeId} {a b v:Value} {u':Mem} (e:makeSliceA cx u t a b=some (v,u')):Nice u u':=by
 unfold makeSliceA at e
 split at e
 ·split at e
  ·split at e
   ·cases e; exact newCells_nice hw _ _ _
   ·cases e
  ·cases e
 ·cases e
theorem giveUp_nice (hw:Wf u) {base:Option Addr} {e s cap:Nat} {u':Mem} (k:giveUp u base e s cap=some u'):Nice u u':=by
 unfold giveUp at k
 split at k
 ·cases k; exact Nice.refl hw
 ·split at k
  ·cases k; exact Nice.refl hw
  ·split at k
   ·split at k
    ·cases k; exact Nice.refl hw
    ·split at k
     ·split at k
      ·split at k
       ·cases k; exact Nice.del hw _
       ·cases k
      ·cases k; exact Nice.refl hw
     ·cases k
   ·cases k
theorem appendT_nice (hw:Wf u) {el:TypeId} {i:TypeInfo} {base:Option Addr} {len cap n:Nat} {new:List Value} {v:Value} {u':Mem} (e:appendT cx u el i base len cap n new=some (v,u')):Nice u u':=by
 unfold appendT at e
 split at e
 ·cases e
 ·split at e
  ·split at e
   ·split at e
    ·cases e; exact Nice.refl hw
    ·split at e
     ·rename_i hst; cases e; exact storeL_nice hw hst
     ·cases e
   ·split at e
    ·cases e; exact Nice.refl hw
    ·cases e
  ·split at e
   ·split at e
    ·rename_i m1 hg hc3
     have k:=giveUp_nice hw hg
     cases e; exact k.trans (newCells_nice k.wf _ _ _)
    ·cases e
   ·cases e
theorem appendZ_nice (hw:Wf u) {el:TypeId} {i:TypeInfo} {ux:TypeDesc} {x:Value} {base:Option Addr} {len cap:Nat} {v:Value} {u':Mem} (e:appendZ cx u el i ux x base len cap=some (v,u')):Nice u u':=by
 unfold appendZ at e
 split at e
 ·split at e
  ·exact appendT_nice hw e
  ·cases e
 ·cases e
theorem appendA_nice (hw:Wf u) {ts:List TypeId} {args:List Value} {v:Value} {u':Mem} (e:appendA cx u ts args=some (v,u')):Nice u u':=by
 unfold appendA at e
 split at e
 ·split at e
  ·split at e
   ·split at e
    ·split at e
     ·cases e
     ·split at e
      ·split at e
       ·split at e
        ·cases e; exact Nice.refl hw
        ·split at e
         ·rename_i hst; cases e; exact storeL_nice hw hst
         ·cases e
       ·split at e
        ·cases e; exact Nice.refl hw
        ·cases e
      ·split at e
       ·split at e
        ·rename_i m1 hg hc3
         have k:=giveUp_nice hw hg
         cases e; exact k.trans (newCells_nice k.wf _ _ _)
        ·cases e
       ·cases e
    ·cases e
   ·exact appendZ_nice hw e
   ·cases e
  ·cases e
 ·cases e
theorem copyA_nice (hw:Wf u) {ts:List TypeId} {args:List Value} {v:Value} {u':Mem} (e:copyA cx u ts args=some (v,u')):Nice u u':=by
 unfold copyA at e
 split at e
 ·split at e
  ·split at e
   ·split at e
    ·split at e
     ·split at e
      ·cases e; exact Nice.refl hw
      ·split at e
       ·rename_i hst; cases e; exact storeL_nice hw hst
       ·cases e
     ·cases e; exact Nice.refl hw
    ·cases e
   ·cases e
  ·cases e
 ·cases e
theorem mapUpdateA_nice (hw:Wf u) {t:TypeId} {x k v:Value} {u':Mem} (e:mapUpdateA cx u t x k v=some u'):Nice u u':=by
 unfold mapUpdateA at e
 split at e
 ·split at e
  ·rename_i hg
   split at e
   ·exact setO_nice hw hg e
   ·exact setO_nice hw hg e
   ·cases e
  ·cases e
 ·cases e
theorem mapEntryA_nice (hw:Wf u) {t:TypeId} {x k v:Value} {u':Mem} (e:mapEntryA cx u t x k=some (v,u')):Nice u u':=by
 unfold mapEntryA at e
 split at e
 ·split at e
  ·rename_i hg
   split at e
   ·split at e
    ·rename_i hs; cases e; exact setO_nice hw hg hs
    ·cases e
   ·split at e
    ·split at e
     ·rename_i hs; cases e; exact setO_nice hw hg hs
     ·cases e
    ·cases e
   ·cases e
  ·cases e
 ·cases e
theorem entryStoreA_nice (hw:Wf u) {x s v:Value} {u':Mem} (e:entryStoreA u x s v=some u'):Nice u u':=by
 unfold entryStoreA at e
 split at e
 ·split at e
  ·rename_i hg
   split at e
   ·exact setO_nice hw hg e
   ·cases e
  ·cases e
 ·cases e
theorem deleteA_nice (hw:Wf u) {t:TypeId} {x k:Value} {u':Mem} (e:deleteA cx u t x k=some u'):Nice u u':=by
 unfold deleteA at e
 split at e
 ·cases e; exact Nice.refl hw
 ·split at e
  ·rename_i hg
   split at e
   ·exact setO_nice hw hg e
   ·cases e; exact Nice.refl hw
   ·cases e
  ·cases e
 ·cases e
theorem clearA_nice (hw:Wf u) {ts:List TypeId} {args:List Value} {v:Value} {u':Mem} (e:clearA cx u ts args=some (v,u')):Nice u u':=by
 unfold clearA at e
 split at e
 ·split at e
  ·split at e
   ·cases e; exact Nice.refl hw
   ·cases e; exact Nice.refl hw
   ·split at e
    ·split at e
     ·split at e
      ·rename_i hst; cases e; exact storeL_nice hw hst
      ·cases e
     ·cases e
    ·cases e
  ·cases e
 ·cases e
theorem builtinA_nice (hw:Wf u) {b:Builtin} {ts:List TypeId} {args:List Value} {v:Value} {u':Mem} (e:builtinA cx u b ts args=some (v,u')):Nice u u':=by
 unfold builtinA at e
 (try dsimp only at e)
 cases b <;> (try dsimp only at e)
 case append=>exact appendA_nice hw e
 case copy=>exact copyA_nice hw e
 case len=>
  split at e
  ·cases e; exact Nice.refl hw
  ·cases e
 case cap=>
  split at e
  ·cases e; exact Nice.refl hw
  ·cases e
 case max=>
  split at e
  ·split at e
   ·cases e; exact Nice.refl hw
   ·cases e
  ·cases e
 case min=>
  split at e
  ·split at e
   ·cases e; exact Nice.refl hw
   ·cases e
  ·cases e
 case delete=>
  split at e
  ·split at e
   ·rename_i hd; cases e; exact deleteA_nice hw hd
   ·cases e
  ·cases e
 case clear=>exact clearA_nice hw e
 all_goals cases e
end
def NiC (f:Caller):Prop:=∀ k a u r u',f k a u=some (r,u')→Wf u→Nice u u'
section
variable {u:Mem}
theorem callA_nice {f:Caller} (hf:NiC f) (hw:Wf u) {tm:Tr Value} {sz:Nat} {c:Call} {v:Value} {u':Mem} (e:callA cx f ⟨tm,sz,u⟩ c=some (v,u')):Nice u u':=by
 unfold callA at e
 split at e
 ·cases e
 ·split at e
  ·exact builtinA_nice hw e
  ·split at e
   ·exact hf _ _ _ _ _ e hw
   ·cases e
  ·split at e
   ·split at e
    ·exact hf _ _ _ _ _ e hw
    ·cases e
   ·cases e
theorem opA_nice {f:Caller} (hf:NiC f) (hw:Wf u) {tm:Tr Value} {sz:Nat} {o:Oper} {v:Option Value} {u':Mem} (e:opA cx f ⟨tm,sz,u⟩ o=some (v,u')):Nice u u':=by
 unfold opA at e
 (try dsimp only at e)
 cases ho:o.op <;> simp only [ho] at e
 all_goals (try (cases e; done))
 case alloc t=>
  split at e
  ·cases e; exact newCells_nice hw _ _ _
  ·cases e
 case box t x=>
  split at e
  ·cases e; exact newCells_nice hw _ _ _
  ·cases e
 case buildSlice t n ps=>
  split at e
  ·split at e
   ·rename_i hx; cases e; exact buildSliceA_nice hw hx
   ·cases e
  ·cases e
 case makeSlice t l c=>
  split at e
  ·split at e
   ·rename_i hx; cases e; exact makeSliceA_nice hw hx
   ·cases e
  ·cases e
 case makeMap t r=>
  cases r with
  | none=>cases e; exact Nice.new hw _
  | some r=>cases e
 case store t a x=>
  split at e
  ·split at e
   ·rename_i hx; cases e; exact storeT_nice hw hx
   ·cases e
  ·cases e
 case mapUpdate t x k y=>
  split at e
  ·split at e
   ·rename_i hx; cases e; exact mapUpdateA_nice hw hx
   ·cases e
  ·cases e
 case insert t x k y=>
  split at e
  ·split at e
   ·rename_i hx; cases e; exact mapUpdateA_nice hw hx
   ·cases e
  ·cases e
 case mapEntry t x k=>
  split at e
  ·split at e
   ·rename_i hx; cases e; exact mapEntryA_nice hw hx
   ·cases e
  ·cases e
 case entryStore t x s y=>
  split at e
  ·split at e
   ·rename_i hx; cases e; exact entryStoreA_nice hw hx
   ·cases e
  ·cases e
 case call c=>
  split at e
  ·rename_i hx; cases e; exact callA_nice hf hw hx
  ·cases e
 case pick c x y=>
  split at e
  ·cases e; exact Nice.refl hw
  ·cases e; exact Nice.refl hw
  ·cases e
 case nilCheck x=>
  split at e
  ·cases e; exact Nice.refl hw
  ·cases e; exact Nice.refl hw
  ·cases e; exact Nice.refl hw
  ·cases e
 case makeInterface t x=>
  split at e
  ·cases e
  ·cases e; exact Nice.refl hw
  ·cases e
 case binOp op t x y q=>
  split at e
  ·split at e
   ·split at e
    ·cases e; exact Nice.refl hw
    ·cases e
   ·cases e
  ·cases e
 all_goals (split at e)
 all_goals first
  | (cases e; done)
  | (cases e; exact Nice.refl hw)
  | (split at e <;> first | (cases e; done) | (cases e; exact Nice.refl hw))
theorem opA_same {f:Caller} {tm:Tr Value} {sz:Nat} {o:Oper} {v:Option Value} {u':Mem} (hk:kindO o.op≠2) (e:opA cx f ⟨tm,sz,u⟩ o=some (v,u')):u'=u:=by
 unfold opA at e
 (try dsimp only at e)
 cases ho:o.op <;> simp only [ho] at e hk
 all_goals (try (exact absurd rfl hk))
 all_goals (try (cases e; done))
 case call c=>
  split at e
  ·rename_i x m1 hx
   cases e
   unfold callA at hx
   split at hx
   ·cases hx
   ·split at hx
    ·rename_i b hb
     unfold builtinA at hx
     obtain ⟨cal,ca,ct⟩:=c
     simp only at hb; subst hb
     (try dsimp only at hx)
     cases b <;> (try dsimp only at hx) <;> (try (exact absurd rfl hk))
     case len=>
      split at hx
      ·cases hx; rfl
      ·cases hx
     case cap=>
      split at hx
      ·cases hx; rfl
      ·cases hx
     case max=>
      split at hx
      ·split at hx
       ·cases hx; rfl
       ·cases hx
      ·cases hx
     case min=>
      split at hx
      ·split at hx
       ·cases hx; rfl
       ·cases hx
      ·cases hx
    ·rename_i g hb
     obtain ⟨cal,ca,ct⟩:=c
     simp only at hb; subst hb
     exact absurd rfl hk
    ·rename_i g n hb
     obtain ⟨cal,ca,ct⟩:=c
     simp only at hb; subst hb
     exact absurd rfl hk
  ·cases e
 case pick c x y=>
  split at e
  ·cases e; rfl
  ·cases e; rfl
  ·cases e
 case nilCheck x=>
  split at e
  ·cases e; rfl
  ·cases e; rfl
  ·cases e; rfl
  ·cases e
 case makeInterface t x=>
  split at e
  ·cases e
  ·cases e; rfl
  ·cases e
 case binOp op t x y q=>
  split at e
  ·split at e
   ·split at e
    ·cases e; rfl
    ·cases e
   ·cases e
  ·cases e
 all_goals (split at e)
 all_goals first
  | (cases e; done)
  | (cases e; rfl)
  | (split at e <;> first | (cases e; done) | (cases e; rfl))
theorem putT_m {st st':St} {dst:Option Tmp} {v:Option Value} {m:Mem} (e:putT st dst v m=some st'):st'.m=m∧st'.sz=st.sz:=by
 unfold putT at e
 split at e
 ·cases e; exact ⟨rfl,rfl⟩
 ·split at e
  ·split at e
   ·cases e; exact ⟨rfl,rfl⟩
   ·cases e; exact ⟨rfl,rfl⟩
  ·cases e
theorem runOps_nice {f:Caller} (hf:NiC f) {ops:List Oper}:∀ {rest:List Oper} {st st':St},Wf st.m→runOps cx f ops rest st=some st'→Nice st.m st'.m
 | [],st,st',hw,e=>by unfold runOps at e; cases e; exact Nice.refl hw
 | o :: r,st,st',hw,e=>by
  unfold runOps at e
  split at e
  ·split at e
   ·rename_i v m1 hop
    have k:=opA_nice hf hw hop
    split at e
    ·rename_i st1 hp
     obtain ⟨p1,p2⟩:=putT_m hp
     exact k.trans (by have:=runOps_nice hf (by rw [p1]; exact k.wf) e; rw [p1] at this; exact this)
    ·cases e
   ·cases e
  ·split at e
   ·rename_i st1 hp
    obtain ⟨p1,p2⟩:=putT_m hp
    have:=runOps_nice hf (by rw [p1]; exact hw) e; rw [p1] at this; exact this
   ·cases e
  ·cases e
structure DrWf (base top i:Nat) (d:Dr):Prop where
 ids:∀ e∈d.made,e.2.1 < base+i
 hist:∀ h∈d.hist,Wf h.2.2.1∧top≤h.2.2.1.nx
 le:base+i≤top
theorem addMade_wf {p:Nat→Bool}:∀ {made:List (Nat×Nat×AObj)} {u:Mem},Wf u→(∀ e∈made,e.2.1 < u.nx)→Wf (addMade p made u)∧(addMade p made u).nx=u.nx∧(addMade p made u).fl=u.fl
 | [],u,hw,_=>⟨hw,rfl,rfl⟩
 | (i,id,o) :: r,u,hw,hid=>by
  obtain ⟨h1,h2,h3⟩:=addMade_wf (p:=p) (made:=r) hw (fun e he=>hid e (List.mem_cons_of_mem _ he))
  unfold addMade
  split
  ·exact ⟨h1.addO (by rw [h2]; exact hid _ (List.mem_cons_self ..)),h2,h3⟩
  ·exact ⟨h1,h2,h3⟩
theorem drawOp_nice {f:Caller} (hf:NiC f) {ops:List Oper} {o:Oper} {r:List Oper} {s:Nat} {q:List Nat} {i base top:Nat} {d d1:Dr} {st:St} {v:Option Value} {u1:Mem}
  (hw:Wf st.m) (ht:top≤st.m.nx) (hd:DrWf base top i d) (hlt:base+i < top) (e:drawOp cx f ops o r s q i base d st=some (v,u1,d1)):Nice st.m u1∧DrWf base top (i+1) d1:=by
 have hids:∀ e∈d.made,e.2.1 < st.m.nx:=fun e he=>by have:=hd.ids e he; omega
 unfold drawOp at e
 split at e
 ·split at e
  ·unfold drawMake at e
   split at e
   ·split at e
    ·cases e
     exact ⟨Nice.refl hw,fun e he=>by
      rcases List.mem_cons.1 he with rfl | he
      ·show base+i < _; omega
      ·have:=hd.ids e he; omega,hd.hist,by omega⟩
    ·cases e
   ·cases e
  ·unfold drawChange at e
   obtain ⟨a1,a2,a3⟩:=addMade_wf (p:=newIn s d.took) hw hids
   have hh:∀ h∈((i,true,st.m,d.took) :: d.hist),Wf h.2.2.1∧top≤h.2.2.1.nx:=fun h he=>by
    rcases List.mem_cons.1 he with rfl | he
    ·exact ⟨hw,ht⟩
    ·exact hd.hist h he
   split at e
   ·cases e
   ·split at e
    ·split at e
     ·split at e
      ·split at e
       ·rename_i x mm hop
        cases e
        have k:=opA_nice hf a1 hop
        refine ⟨⟨k.wf,k.fl.trans a3,by have:=k.nx; rw [a2] at this; exact this⟩,fun e he=>by have:=hd.ids e he; omega,?_,by omega⟩
        intro h he
        rcases List.mem_cons.1 he with rfl | he
        ·exact ⟨hw,ht⟩
        ·exact hd.hist h he
       ·cases e
      ·cases e
     ·split at e
      ·rename_i x mm hop
       cases e
       have hfl:softFl ops base st.m.nx s i d q r≤st.m.nx:=by
        unfold softFl
        split
        ·omega
        ·exact Nat.le_refl _
       have k:=opA_nice hf (u:={ addMade (newIn s d.took) d.made st.m with fl:=softFl ops base st.m.nx s i d q r }) ⟨by show softFl _ _ _ _ _ _ _ _≤(addMade _ _ _).nx; rw [a2]; exact hfl,a1.2⟩ hop
       have kn:st.m.nx≤mm.nx:=by have:=k.nx; rw [a2] at this; exact this
       refine ⟨⟨⟨Nat.le_trans hw.1 kn,k.wf.2⟩,rfl,kn⟩,fun e he=>by have:=hd.ids e he; omega,?_,by omega⟩
       exact hh
      ·cases e
    ·split at e
     ·rename_i x mm hop
      cases e
      have k:=opA_nice hf a1 hop
      refine ⟨⟨k.wf,k.fl.trans a3,by have:=k.nx; rw [a2] at this; exact this⟩,fun e he=>by have:=hd.ids e he; omega,?_,by omega⟩
      intro h he
      rcases List.mem_cons.1 he with rfl | he
      ·exact ⟨hw,ht⟩
      ·exact hd.hist h he
     ·cases e
 ·unfold drawRead at e
  split at e
  ·split at e
   ·cases e
    exact ⟨Nice.refl hw,fun e he=>by have:=hd.ids e he; omega,hd.hist,by omega⟩
   ·cases e
  ·cases e
 ·unfold drawPlain at e
  split at e
  ·cases e
   exact ⟨Nice.refl hw,fun e he=>by have:=hd.ids e he; omega,hd.hist,by omega⟩
  ·cases e
theorem runDraw_nice {f:Caller} (hf:NiC f) {ops:List Oper} {base top:Nat}:∀ {rest:List Oper} {ss:List Nat} {i:Nat} {d:Dr} {st st':St},Wf st.m→top≤st.m.nx→DrWf base top i d→base+i+rest.length≤top →
  runDraw cx f ops base rest ss i d st=some st'→Nice st.m st'.m
 | [],ss,i,d,st,st',hw,ht,hd,hl,e=>by
  unfold runDraw at e
  cases e
  obtain ⟨a1,a2,a3⟩:=addMade_wf (p:=fun k=>!hasBit d.took k) hw (fun e he=>by have:=hd.ids e he; omega)
  exact ⟨a1,a3,Nat.le_of_eq a2.symm⟩
 | o :: r,[],i,d,st,st',hw,ht,hd,hl,e=>by unfold runDraw at e; cases e
 | o :: r,s :: q,i,d,st,st',hw,ht,hd,hl,e=>by
  have hl':base+i+(r.length+1)≤top:=hl
  unfold runDraw at e
  split at e
  ·split at e
   ·rename_i v m1 d1 hop
    obtain ⟨k1,k2⟩:=drawOp_nice hf hw ht hd (by omega) hop
    split at e
    ·rename_i st1 hp
     obtain ⟨p1,p2⟩:=putT_m hp
     have:=runDraw_nice hf (by rw [p1]; exact k1.wf) (by rw [p1]; exact Nat.le_trans ht k1.nx) k2 (by omega) e
     rw [p1] at this
     exact k1.trans this
    ·cases e
   ·cases e
  ·split at e
   ·rename_i st1 hp
    obtain ⟨p1,p2⟩:=putT_m hp
    have:=runDraw_nice hf (by rw [p1]; exact hw) (by rw [p1]; exact ht) (d:=d) (i:=i+1) ⟨fun e he=>by have:=hd.ids e he; omega,hd.hist,by omega⟩ (by omega) e
    rw [p1] at this
    exact this
   ·cases e
  ·cases e
end
def NiR (f:Code→St→Option (Ex×St)):Prop:=∀ c st ex st',f c st=some (ex,st')→Wf st.m→Nice st.m st'.m
def OvNi (cx:Cx):Prop:=∀ k f,cx.ov.get k=some f→∀ a u r u',f a u=some (r,u')→Wf u→Nice u u'
theorem callOf_nice (ho:OvNi cx) {f:Code→St→Option (Ex×St)} (hf:NiR f):NiC (callOf cx f):=by
 intro k a u r u' e hw
 unfold callOf at e
 cases hov:cx.ov.get k with
 | some g=>rw [hov] at e; exact ho k g hov a u r u' e hw
 | none=>
  rw [hov] at e
  (try dsimp only at e)
  unfold callBody at e
  split at e
  ·split at e
   ·split at e
    ·split at e
     ·rename_i st hr
      have k:=hf _ _ _ _ hr hw
      unfold retOf at e
      split at e
      ·cases e; exact k
      ·cases e
     ·rename_i st hr
      have k:=hf _ _ _ _ hr hw
      unfold retOf at e
      split at e
      ·cases e; exact k
      ·cases e
     ·cases e
    ·cases e
   ·cases e
  ·cases e
theorem step_nice (ho:OvNi cx) {f:Code→St→Option (Ex×St)} (hf:NiR f):NiR (step cx f):=by
 intro c st ex st' e hw
 cases c with
 | skip=>simp only [step] at e; cases e; exact Nice.refl hw
 | label l=>simp only [step] at e; cases e; exact Nice.refl hw
 | exit id=>simp only [step] at e; cases e; exact Nice.refl hw
 | ret=>simp only [step] at e; cases e; exact Nice.refl hw
 | region id ops draw=>
  cases draw with
  | false=>
   simp only [step] at e
   split at e
   ·rename_i st1 h1; cases e; exact runOps_nice (callOf_nice ho hf) hw h1
   ·cases e
  | true=>
   simp only [step] at e
   split at e
   ·split at e
    ·rename_i st1 h1
     cases e
     have k:=runDraw_nice (top:=st.m.nx+ops.toList.length) (callOf_nice ho hf) (st:={ st with m:={ st.m with nx:=st.m.nx+ops.toList.length } }) (hw.bump (n:=ops.toList.length)) (Nat.le_refl _) ⟨(fun e he=>by cases he),(fun h he=>by cases he),Nat.le_add_right _ _⟩ (by omega) h1
     exact ⟨k.wf,k.fl,Nat.le_trans (Nat.le_add_right _ _) k.nx⟩
    ·cases e
   ·cases e
 | seq a b=>
  simp only [step] at e
  split at e
  ·rename_i st1 h1
   have k:=hf _ _ _ _ h1 hw
   exact k.trans (hf _ _ _ _ e k.wf)
  ·exact hf _ _ _ _ e hw
 | cond o x y=>
  simp only [step] at e
  split at e
  ·exact hf _ _ _ _ e hw
  ·exact hf _ _ _ _ e hw
  ·cases e
 | block id x=>
  simp only [step] at e
  split at e
  ·rename_i h1
   split at e
   ·cases e; exact hf _ _ _ _ h1 hw
   ·cases e; exact hf _ _ _ _ h1 hw
  ·exact hf _ _ _ _ e hw
 | loop x=>
  simp only [step] at e
  split at e
  ·rename_i st1 h1
   have k:=hf _ _ _ _ h1 hw
   exact k.trans (hf _ _ _ _ e k.wf)
  ·exact hf _ _ _ _ e hw
 | rangeFunc _ _ _ _=>simp [step] at e
 | goto _=>simp [step] at e
 | scope _=>simp [step] at e
 | refuse _=>simp [step] at e
theorem exec_nice (ho:OvNi cx):∀ n,NiR (exec cx n)
 | 0=>fun c st ex st' e=>by cases e
 | n+1=>step_nice ho (exec_nice ho n)
theorem exec_call_nice (ho:OvNi cx) (n:Nat):NiC (callOf cx (exec cx n)):=callOf_nice ho (exec_nice ho n)
end Go.AX
