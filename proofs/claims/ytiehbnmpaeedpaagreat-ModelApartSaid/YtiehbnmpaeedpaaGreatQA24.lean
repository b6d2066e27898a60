import Derived.Test.YtiehbnmpaeedpaaGreatQA20
import Derived.Test.YtiehbnmpaeedpaaGreatQA10
import Derived.Test.YtiehbnmpaeedpaaGreatQA23
namespace Go.AX
set_option linter.unusedSimpArgs false
set_option linter.unusedVariables false
set_option linter.unusedSectionVars false
open Go
theorem joinK_of' {α : Type} {j:α} {f:α→Prop} (P:α→Prop) (hj:P j) (h:∀ J,P J→f J):joinK j f:=h j hj
theorem addI_one {k n:Nat} (hn:n≤4611686018427387904) (hk:k < n):addI .i64 (k:Int) 1=((k+1:Nat):Int):=by
 rw [addI_64 (by omega) (by omega)]; rfl
theorem forN {n:Nat} {m:Mem} {B:(Int→Mem→Nat→Prop)→Int→Mem→Nat→Prop} (hn:n≤4611686018427387904) (R:Nat→Mem→Prop) (h0:R 0 m)
  (hs:∀ k m1,k≤n→R k m1→∀ I w,(∀ m2,k < n→R (k+1) m2→∃ n',n' < w∧I (addI .i64 (k:Int) 1) m2 n')→B I (k:Int) m1 w) :
  ∃ Inv:Int→Mem→Nat→Prop,(∃ w,Inv 0 m w)∧∀ x m1 w,Inv x m1 w→B Inv x m1 w:=by
 refine ⟨fun x m1 w=>∃ k:Nat,x=(k:Int)∧k≤n∧w=n - k∧R k m1,⟨n,0,rfl,Nat.zero_le _,rfl,h0⟩,?_⟩
 rintro x m1 w ⟨k,rfl,hk,rfl,hR⟩
 exact hs k m1 hk hR _ _ fun m2 hlt h=>⟨n - (k+1),by omega,k+1,addI_one hn hlt,by omega,rfl,h⟩
theorem forN1 {α : Type} {n:Nat} {m:Mem} {a0:α} {B:(α→Int→Mem→Nat→Prop)→α→Int→Mem→Nat→Prop} (hn:n≤4611686018427387904) (R:Nat→α→Mem→Prop) (h0:R 0 a0 m)
  (hs:∀ k a m1,k≤n→R k a m1→∀ I w,(∀ a' m2,k < n→R (k+1) a' m2→∃ n',n' < w∧I a' (addI .i64 (k:Int) 1) m2 n')→B I a (k:Int) m1 w) :
  ∃ Inv:α→Int→Mem→Nat→Prop,(∃ w,Inv a0 0 m w)∧∀ a x m1 w,Inv a x m1 w→B Inv a x m1 w:=by
 refine ⟨fun a x m1 w=>∃ k:Nat,x=(k:Int)∧k≤n∧w=n - k∧R k a m1,⟨n,0,rfl,Nat.zero_le _,rfl,h0⟩,?_⟩
 rintro a x m1 w ⟨k,rfl,hk,rfl,hR⟩
 exact hs k a m1 hk hR _ _ fun a' m2 hlt h=>⟨n - (k+1),by omega,k+1,addI_one hn hlt,by omega,rfl,h⟩
theorem forN3 {α β γ : Type} {n:Nat} {m:Mem} {a0:α} {b0:β} {c0:γ} {B:(α→β→γ→Int→Mem→Nat→Prop)→α→β→γ→Int→Mem→Nat→Prop} (hn:n≤4611686018427387904) (R:Nat→α→β→γ→Mem→Prop) (h0:R 0 a0 b0 c0 m)
  (hs:∀ k a b c m1,k≤n→R k a b c m1→∀ I w,(∀ a' b' c' m2,k < n→R (k+1) a' b' c' m2→∃ n',n' < w∧I a' b' c' (addI .i64 (k:Int) 1) m2 n')→B I a b c (k:Int) m1 w) :
  ∃ Inv:α→β→γ→Int→Mem→Nat→Prop,(∃ w,Inv a0 b0 c0 0 m w)∧∀ a b c x m1 w,Inv a b c x m1 w→B Inv a b c x m1 w:=by
 refine ⟨fun a b c x m1 w=>∃ k:Nat,x=(k:Int)∧k≤n∧w=n - k∧R k a b c m1,⟨n,0,rfl,Nat.zero_le _,rfl,h0⟩,?_⟩
 rintro a b c x m1 w ⟨k,rfl,hk,rfl,hR⟩
 exact hs k a b c m1 hk hR _ _ fun a' b' c' m2 hlt h=>⟨n - (k+1),by omega,k+1,addI_one hn hlt,by omega,rfl,h⟩
theorem ltI_len {k n:Nat}:ltI (k:Int) (lenI n)=true↔k < n:=by rw [ltI_true]; simp [lenI]
theorem ltI_len' {k n:Nat}:ltI (k:Int) (lenI n)=false↔n≤k:=by rw [ltI_false]; simp [lenI]
theorem split_lt {k n:Nat} {t e:Prop} (h1:k < n→t) (h2:n≤k→e):splitB (ltI (k:Int) (lenI n)) t e:=by
 rw [splitB_iff]; exact ⟨fun h=>h1 (ltI_len.1 h),fun h=>h2 (ltI_len'.1 h)⟩
theorem split_eq {x y:Int} {t e:Prop} (h1:x=y→t) (h2:x≠y→e):splitB (eqI x y) t e:=by
 rw [splitB_iff]; exact ⟨fun h=>h1 (eqI_true.1 h),fun h=>h2 (eqI_false.1 h)⟩
theorem split_ne {x y:Int} {t e:Prop} (h1:x≠y→t) (h2:x=y→e):splitB (neI x y) t e:=by
 rw [splitB_iff]; exact ⟨fun h=>h1 (neI_true.1 h),fun h=>h2 (neI_false.1 h)⟩
theorem split_ltI {x y:Int} {t e:Prop} (h1:x < y→t) (h2:y≤x→e):splitB (ltI x y) t e:=by
 rw [splitB_iff]; exact ⟨fun h=>h1 (ltI_true.1 h),fun h=>h2 (ltI_false.1 h)⟩
theorem split_leI {x y:Int} {t e:Prop} (h1:x≤y→t) (h2:y < x→e):splitB (leI x y) t e:=by
 rw [splitB_iff]; exact ⟨fun h=>h1 (leI_true.1 h),fun h=>h2 (leI_false.1 h)⟩
theorem split_b {b:Bool} {t e:Prop} (h1:b=true→t) (h2:b=false→e):splitB b t e:=splitB_iff.2 ⟨h1,h2⟩
theorem split_nb {b:Bool} {t e:Prop} (h1:b=false→t) (h2:b=true→e):splitB (!b) t e:=by
 cases b
 ·exact h1 rfl
 ·exact h2 rfl
def ArrP {α : Type} (P:Mem→Nat→Nat→α→Prop) (s:Nat) (m:Mem) (a:Option Addr) (n:Nat) (l:List α):Prop:=
 l.length=n∧∀ i x,l[i]? = some x→∃ b o,a=some ⟨b,o,none⟩∧P m b (o+i*s) x
theorem ArrP.open {α : Type} {P:Mem→Nat→Nat→α→Prop} {s:Nat} {m:Mem} {a:Option Addr} {n:Nat} {l:List α} (h:ArrP P s m a n l) {k:Nat} {x:α} {G:Nat→Nat→Prop} (hx:l[k]? = some x)
  (hG:∀ b o,P m b (o+Int.toNat (k:Int)*s) x→G b o):(0≤(k:Int)∧(k:Int) < ((n:Nat):Int))∧vPtr a G:=by
 have hlt:=(List.getElem?_eq_some_iff.1 hx).1
 obtain ⟨b,o,rfl,hP⟩:=h.2 k x hx
 exact ⟨⟨by omega,by have:=h.1; omega⟩,hG b o hP⟩
theorem ArrP.get {α : Type} {P:Mem→Nat→Nat→α→Prop} {s:Nat} {m:Mem} {a:Option Addr} {n:Nat} {l:List α} (h:ArrP P s m a n l) {k:Nat} (hk:k < n):∃ x,l[k]? = some x:=
 ⟨l[k]'(by have:=h.1; omega),List.getElem?_eq_getElem (by have:=h.1; omega)⟩
theorem ArrP.imp {α : Type} {P Q:Mem→Nat→Nat→α→Prop} {s:Nat} {m m':Mem} {a:Option Addr} {n:Nat} {l:List α} (h:ArrP P s m a n l) (hP:∀ b o x,x∈l→P m b o x→Q m' b o x):ArrP Q s m' a n l:=
 ⟨h.1,fun i x hx=>by
  obtain ⟨b,o,h1,h2⟩:=h.2 i x hx
  exact ⟨b,o,h1,hP _ _ _ (List.mem_of_getElem? hx) h2⟩⟩
theorem ArrP.nil {α : Type} {P:Mem→Nat→Nat→α→Prop} {s:Nat} {m:Mem} {a:Option Addr}:ArrP P s m a 0 []:=⟨rfl,fun i x hx=>by cases hx⟩
theorem rd_keep {m m':Mem} (k:Keep m m') (hw:Wf m) {b o:Nat} {v:Value} (h:rd m b o=some v):rd m' b o=some v:=by
 rw [rd_congr (k.get b (hw.rd h))]; exact h
theorem rd_fr {m m':Mem} {S:List Nat} (k:Fr m m' S) (hw:Wf m) {b o:Nat} {v:Value} (h:rd m b o=some v) (hb:b∉S):rd m' b o=some v:=by
 rw [rd_congr (k.get b (hw.rd h) hb)]; exact h
def Cells {α : Type} (enc:α→List Value) (m:Mem) (b o:Nat) (x:α):Prop:=∀ j v,(enc x)[j]? = some v→rd m b (o+j)=some v
theorem Cells.keep {α : Type} {enc:α→List Value} {m m':Mem} {b o:Nat} {x:α} (h:Cells enc m b o x) (hw:Wf m) (k:Keep m m'):Cells enc m' b o x:=fun j v hv=>rd_keep k hw (h j v hv)
def Arr {α : Type} (enc:α→List Value) (s:Nat):=ArrP (Cells enc) s
theorem Arr.keep {α : Type} {enc:α→List Value} {s:Nat} {m m':Mem} {a:Option Addr} {n:Nat} {l:List α} (h:Arr enc s m a n l) (hw:Wf m) (k:Keep m m'):Arr enc s m' a n l:=
 ArrP.imp h fun b o x _ hx=>hx.keep hw k
theorem flat_get {α : Type} {enc:α→List Value} {s:Nat} (hs:∀ x,(enc x).length=s):∀ {l:List α} {i j:Nat} {x:α},l[i]? = some x→j < s→(l.flatMap enc)[i*s+j]? = (enc x)[j]?
 | [],i,j,x,h,_=>by cases h
 | y :: r,0,j,x,h,hj=>by
  simp at h; subst h
  rw [List.flatMap_cons,List.getElem?_append_left (by rw [hs]; omega)]
  simp
 | y :: r,i+1,j,x,h,hj=>by
  rw [List.flatMap_cons,List.getElem?_append_right (by rw [hs,Nat.succ_mul]; omega),hs,← flat_get hs (by simpa using h) hj]
  congr 1
  rw [Nat.succ_mul]; omega
theorem flat_length {α : Type} {enc:α→List Value} {s:Nat} (hs:∀ x,(enc x).length=s) (l:List α):(l.flatMap enc).length=l.length*s:=by
 induction l with
 | nil=>simp
 | cons a r ih=>rw [List.flatMap_cons,List.length_append,ih,hs,List.length_cons,Nat.succ_mul]; omega
theorem Arr.of_grow {α : Type} {enc:α→List Value} {s:Nat} (hs:∀ x,(enc x).length=s) {m:Mem} {a:Option Addr} {n c:Nat} {e:TypeId} {l:List α} (h0:0 < s) (h:Grow m a n c s e (l.flatMap enc)):Arr enc s m a n l:=by
 have hl:=h.1
 rw [flat_length hs] at hl
 refine ⟨Nat.eq_of_mul_eq_mul_right h0 hl,fun i x hx=>?_⟩
 have hlt:=(List.getElem?_eq_some_iff.1 hx).1
 have hne:∃ b,a=some ⟨b,0,none⟩∧Row m b (l.flatMap enc) e true:=by
  rcases h.2 with ⟨_,h2,_⟩ | ⟨b,h1,_,_,h4⟩
  ·have:l.length*s=0:=by rw [hl,h2,Nat.zero_mul]
   rcases Nat.mul_eq_zero.1 this with h | h <;> omega
  ·exact ⟨b,h1,h4⟩
 obtain ⟨b,rfl,hr⟩:=hne
 refine ⟨b,0,rfl,fun j v hv=>?_⟩
 have hj:j < s:=by rw [← hs x]; exact (List.getElem?_eq_some_iff.1 hv).1
 rw [hr.rd,Nat.zero_add,flat_get hs hx hj,hv]
theorem Arr.of_row {α : Type} {enc:α→List Value} {s:Nat} (hs:∀ x,(enc x).length=s) {m:Mem} {b:Nat} {e:TypeId} {y:Bool} {l:List α} (h:Row m b (l.flatMap enc) e y):Arr enc s m (some ⟨b,0,none⟩) l.length l:=by
 refine ⟨rfl,fun i x hx=>⟨b,0,rfl,fun j v hv=>?_⟩⟩
 have hj:j < s:=by rw [← hs x]; exact (List.getElem?_eq_some_iff.1 hv).1
 rw [h.rd,Nat.zero_add,flat_get hs hx hj,hv]
end Go.AX
namespace Go.AX
set_option linter.unusedSimpArgs false
set_option linter.unusedSectionVars false
open Go
set_option linter.unusedVariables false
theorem neI_self (x:Int):neI x x=false:=by simp [neI]
theorem Keep.unset {m m1:Mem} {n:Nat} (hw:Wf m) (h:Keep (setFl m n) m1):Keep m (setFl m1 m.fl):=by
 refine ⟨⟨?_,h.wf.2⟩,h.nx,rfl,h.get⟩
 have:=h.nx
 have h2:=hw.1
 simp only [setFl_fl,setFl_nx] at *
 omega
theorem Wf.setFl {m:Mem} (h:Wf m) {n:Nat} (hn:n≤m.nx):Wf (AX.setFl m n):=⟨hn,h.2⟩
theorem Keep.unset' {m m0 m1:Mem} {n:Nat} (h0:Keep m m0) (h:Keep (AX.setFl m0 n) m1):Keep m (AX.setFl m1 m0.fl):=h0.trans (Keep.unset h0.wf h)
theorem append_new {cx:Cx} {m:Mem} {t e s n k c ck:Nat} {a v:Option Addr} {old new:List Value} (hp:pushT cx t e s=true) (hgu:giveUp m a e s c=some m) (hold:firstL m s n (.slice a n c)=some old) (hol:old.length=n*s)
  (hnew:firstL m s k (.slice v k ck)=some new) (hnl:new.length=k*s) (ho:new.all one1=true) (hcn:c < n+k) (hn:n+k≤1000000) :
  appendA cx m [t,t] [.slice a n c,.slice v k ck]=some (.slice (some ⟨m.nx,0,none⟩) (n+k) (n+k),newO m (row (old ++ new) e true)):=by
 obtain ⟨i,z,h1,h2,h3,h4,h5,h6,h7⟩:=pushT_of hp
 subst h3
 have hb:(2*(n+k)+192)*i.bytes≤140737488355328:=by
  have h1:(2*(n+k)+192)≤2000194:=by omega
  have h2:=Nat.mul_le_mul h1 h7
  omega
 unfold appendA
 simp only [h1,h2,lenV,isRowD,hnew]
 have b1:(Nat.beq new.length (k*i.size) && Nat.blt 0 i.size && new.all one1)=true:=by
  rw [hnl,Tr.beq_true.2 rfl,show Nat.blt 0 i.size=true from Nat.ble_eq_true_of_le h6,ho]; rfl
 have b2:Nat.ble (n+k) c=false:=by
  cases hh:Nat.ble (n+k) c with
  | false=>rfl
  | true=>have:=Nat.le_of_ble_eq_true hh; omega
 have b3:(Nat.ble ((2*(n+k)+192)*i.bytes) 140737488355328 && Nat.ble (n+k) 1099511627776)=true:=by
  rw [Nat.ble_eq_true_of_le hb,Nat.ble_eq_true_of_le (by omega)]; rfl
 have b4:(Nat.beq old.length (n*i.size) && Nat.beq (cellsL z).length i.size)=true:=by
  rw [hol,h5,Tr.beq_true.2 rfl,Tr.beq_true.2 rfl]; rfl
 simp only [b1,b2,b3,hold,h4,hgu,b4]
 rfl
theorem Arr.first {α : Type} {enc:α→List Value} {s:Nat} (hs:∀ x,(enc x).length=s) (h0:0 < s) {m:Mem} {a:Option Addr} {n c:Nat} {l:List α} (h:Arr enc s m a n l):firstL m s n (.slice a n c)=some (l.flatMap enc):=by
 have hl:=h.1
 cases a with
 | none=>
  cases l with
  | nil=>rfl
  | cons x r=>obtain ⟨b,o,e,_⟩:=h.2 0 x rfl; cases e
 | some ad=>
  cases n with
  | zero=>rw [List.length_eq_zero_iff.1 hl]; rfl
  | succ n=>
   have hx0:l[0]? = some (l[0]'(by omega)):=List.getElem?_eq_getElem (by omega)
   obtain ⟨b,o,e,_⟩:=h.2 0 _ hx0
   cases e
   simp only [firstL]
   have hcell:∀ j v,(l.flatMap enc)[j]? = some v→rd m b (o+j)=some v:=by
    intro j v hv
    have hj:j < l.length*s:=by rw [← flat_length hs]; exact (List.getElem?_eq_some_iff.1 hv).1
    have hq:j / s < l.length:=(Nat.div_lt_iff_lt_mul h0).2 hj
    have hxx:l[j / s]? = some (l[j / s]):=List.getElem?_eq_getElem hq
    obtain ⟨b',o',e',hc⟩:=h.2 _ _ hxx
    cases e'
    have hm:=Nat.div_add_mod j s
    have hr:=Nat.mod_lt j h0
    have:=hc (j % s) v (by
     rw [← flat_get hs hxx hr,← hv]; congr 1
     rw [Nat.mul_comm]; exact hm)
    rw [show o+j=o+j / s*s+j % s by rw [Nat.mul_comm (j / s) s]; omega]
    exact this
   have hfl:=flat_length hs l
   have hlen:(l.flatMap enc).length=(n+1)*s:=by rw [hfl,hl]
   have hpos:0 < (l.flatMap enc).length:=by rw [hlen,Nat.succ_mul]; omega
   have h1:=hcell ((l.flatMap enc).length - 1) _ (List.getElem?_eq_getElem (by omega))
   rw [rowAtL_eq,← hlen]
   unfold rd at h1 hcell
   cases hr:rowO (m.hp.get b) with
   | none=>rw [hr] at h1; cases h1
   | some cn=>
    obtain ⟨c',N⟩:=cn
    simp only [hr] at h1 hcell ⊢
    have hN:o+((l.flatMap enc).length - 1) < N:=by
     split at h1
     ·rename_i hb; exact Nat.le_of_ble_eq_true hb
     ·cases h1
    simp only [Nat.ble_eq_true_of_le (show o+(l.flatMap enc).length≤N by omega)]
    exact readL_of fun j v hj=>by
     have:=hcell j v hj
     split at this
     ·exact this
     ·cases this
structure Acc (m m1:Mem) (a:Option Addr) (n c s:Nat) (e:TypeId) (l:List Value):Prop where
 keep:Keep m m1
 grow:Grow m1 a n c s e l
 new:∀ b∈blk a,m.nx≤b
theorem Acc.nil {m m1:Mem} (k:Keep m m1) (s:Nat) (e:TypeId):Acc m m1 none 0 0 s e []:=⟨k,Grow.nil _ _ _,fun b h=>by cases h⟩
theorem Acc.then {m m1 m2:Mem} {a:Option Addr} {n c s:Nat} {e:TypeId} {l:List Value} (h:Acc m m1 a n c s e l) (k:Keep m1 m2):Acc m m2 a n c s e l:=
 ⟨h.keep.trans k,k.grow h.keep.wf h.grow,h.new⟩
theorem Acc.lt {m m1:Mem} {a:Option Addr} {n c s:Nat} {e:TypeId} {l:List Value} (h:Acc m m1 a n c s e l):∀ b∈blk a,b < m1.nx:=h.grow.blk_lt h.keep.wf
theorem Acc.fr {m m1 m2:Mem} {S:List Nat} {a:Option Addr} {n c s:Nat} {e:TypeId} {l:List Value} (h:Acc m m1 a n c s e l) (hw:Wf m2) (f:Fr m1 m2 S) (hS:∀ b∈S,m.nx≤b∧b∉blk a):Acc m m2 a n c s e l:=
 ⟨Keep.of_fr h.keep hw f fun b hb=>(hS b hb).1,h.grow.fr f h.keep.wf fun b hb hs=>(hS b hs).2 hb,h.new⟩
theorem Acc.push {cx:Cx} {m m1:Mem} {a:Option Addr} {n c s e t:Nat} {l vs:List Value} (h:Acc m m1 a n c s e l) (hp:pushT cx t e s=true) (hvs:vs.length=s) (ho:vs.all one1=true) (hn:n≤1000000) :
  ∃ m4,appendA cx (newO m1 (row vs e false)) [t,t] [.slice a n c,.slice (some ⟨m1.nx,0,none⟩) 1 1]=some (.slice (some ⟨m1.nx+1,0,none⟩) (n+1) (n+1),m4) ∧
   Acc m m4 (some ⟨m1.nx+1,0,none⟩) (n+1) (n+1) s e (l ++ vs)∧Wf m4∧Fr m1 m4 (blk a)∧m4.nx=m1.nx+2:=by
 obtain ⟨m4,h1,h2,h3,h4,h5⟩:=AX.push hp h.keep.wf h.grow hvs ho hn
 refine ⟨m4,h1,⟨Keep.of_fr h.keep h2 h3 h.new,h5,fun b hb=>?_⟩,h2,h3,h4⟩
 simp [blk] at hb
 have:=h.keep.nx
 omega
theorem Acc.arr {α : Type} {enc:α→List Value} {s:Nat} (hs:∀ x,(enc x).length=s) (h0:0 < s) {m m1:Mem} {a:Option Addr} {n c:Nat} {e:TypeId} {l:List α} (h:Acc m m1 a n c s e (l.flatMap enc)):Arr enc s m1 a n l:=Arr.of_grow hs h0 h.grow
theorem Acc.len {α : Type} {enc:α→List Value} {s:Nat} (hs:∀ x,(enc x).length=s) (h0:0 < s) {m m1:Mem} {a:Option Addr} {n c:Nat} {e:TypeId} {l:List α} (h:Acc m m1 a n c s e (l.flatMap enc)):l.length=n:=(h.arr hs h0).1
inductive OwnSl (m0 m:Mem) (e:TypeId):Option Addr→Nat→Nat→List Value→Prop
 | nil:OwnSl m0 m e none 0 0 []
 | empty (b:Nat) (cc:Tr Value) (hb:m0.nx≤b) (hg:m.hp.get b=some (.cells cc 0 e false)):OwnSl m0 m e (some ⟨b,0,none⟩) 0 0 []
 | row (b n:Nat) (l:List Value) (hn:0 < n) (hb:m0.nx≤b) (hr:Row m b l e true):OwnSl m0 m e (some ⟨b,0,none⟩) n n l
theorem OwnSl.cap {m0 m:Mem} {e:TypeId} {a:Option Addr} {n c:Nat} {l:List Value} (h:OwnSl m0 m e a n c l):c=n:=by cases h <;> rfl
theorem OwnSl.blk {m0 m:Mem} {e:TypeId} {a:Option Addr} {n c:Nat} {l:List Value} (h:OwnSl m0 m e a n c l):∀ b∈blk a,m0.nx≤b:=by
 intro b hb
 cases h with
 | nil=>cases hb
 | empty b' _ h _=>simp [AX.blk] at hb; omega
 | row b' _ _ _ h _=>simp [AX.blk] at hb; omega
theorem OwnSl.lt {m0 m:Mem} {e:TypeId} {a:Option Addr} {n c:Nat} {l:List Value} (h:OwnSl m0 m e a n c l) (hw:Wf m):∀ b∈AX.blk a,b < m.nx:=by
 intro b hb
 cases h with
 | nil=>cases hb
 | empty b' _ _ h=>simp [AX.blk] at hb; subst hb; exact hw.lt h
 | row b' _ _ _ _ h=>simp [AX.blk] at hb; subst hb; exact hw.row h
theorem OwnSl.fr {m0 m m':Mem} {S:List Nat} {e:TypeId} {a:Option Addr} {n c:Nat} {l:List Value} (h:OwnSl m0 m e a n c l) (hw:Wf m) (f:Fr m m' S) (hS:∀ b∈AX.blk a,b∉S):OwnSl m0 m' e a n c l:=by
 have hlt:=h.lt hw
 cases h with
 | nil=>exact .nil
 | empty b cc h hg=>exact .empty b cc h ((f.get b (hlt b (by simp [AX.blk])) (hS b (by simp [AX.blk]))).trans hg)
 | row b n l hn h hr=>exact .row b n l hn h (hr.congr (f.get b (hlt b (by simp [AX.blk])) (hS b (by simp [AX.blk]))))
theorem OwnSl.keep {m0 m m':Mem} {e:TypeId} {a:Option Addr} {n c:Nat} {l:List Value} (h:OwnSl m0 m e a n c l) (hw:Wf m) (k:Keep m m'):OwnSl m0 m' e a n c l:=h.fr hw (k.fr []) (fun _ _ h=>by cases h)
theorem OwnSl.old {m00 m0 m:Mem} {e:TypeId} {a:Option Addr} {n c:Nat} {l:List Value} (h:OwnSl m0 m e a n c l) (hn:m00.nx≤m0.nx):OwnSl m00 m e a n c l:=by
 cases h with
 | nil=>exact .nil
 | empty b cc h hg=>exact .empty b cc (by omega) hg
 | row b n l h0 h hr=>exact .row b n l h0 (by omega) hr
theorem OwnSl.arr {α : Type} {enc:α→List Value} {s:Nat} (hs:∀ x,(enc x).length=s) (h0:0 < s) {m0 m:Mem} {e:TypeId} {a:Option Addr} {n c:Nat} {l:List α} (h:OwnSl m0 m e a n c (l.flatMap enc)) (hl:l.length=n):Arr enc s m a n l:=by
 generalize hL:l.flatMap enc=L at h
 cases h with
 | nil=>rw [List.length_eq_zero_iff.1 hl]; exact ArrP.nil
 | empty b cc h hg=>rw [List.length_eq_zero_iff.1 hl]; exact ArrP.nil
 | row b n L h0 h hr=>subst hL; rw [← hl]; exact Arr.of_row hs hr
theorem Arr.zero {α : Type} {enc:α→List Value} {s:Nat} {m:Mem} {n:Nat} {l:List α} (h:Arr enc s m none n l):n=0∧l=[]:=by
 cases l with
 | nil=>exact ⟨h.1.symm,rfl⟩
 | cons x r=>obtain ⟨b,o,e,_⟩:=h.2 0 x rfl; cases e
theorem clone_g {cx:Cx} {t e s:Nat} {α : Type} {enc:α→List Value} {l:List α} {a:Option Addr} {n c:Nat} {m:Mem} {Q:Value→Mem→Prop} (hp:pushT cx t e s=true) (hs:∀ x,(enc x).length=s) (ho:∀ x,(enc x).all one1=true) (hw:Wf m) (ha:Arr enc s m a n l) (hn:n≤1000000)
  (h:∀ m' a' c',Keep m m'→OwnSl m m' e a' n c' (l.flatMap enc)→Q (.slice a' n c') m') :
  ∃ r:Bool,eqV cx m 40 t (.slice a n c) (.slice none 0 0)=some r∧splitB r (Q (.slice none 0 0) m)
   (mBind (newO m (row [] e false)) fun m1=>∃ (a7:Option Addr) (n7 c7:Nat) (m2:Mem),appendA cx m1 [t,t] [.slice (some ⟨m.nx,0,none⟩) 0 0,.slice a n c]=some (.slice a7 n7 c7,m2)∧Q (.slice a7 n7 c7) m2):=by
 obtain ⟨i,z,h1,h2,h3,h4,h5,h6,h7⟩:=pushT_of hp
 cases a with
 | none=>
  obtain ⟨rfl,rfl⟩:=ha.zero
  refine ⟨true,?_,?_⟩
  ·show eqV cx m (39+1) t _ _=_
   unfold eqV; simp only [h1,Option.isNone_none]
  ·rw [splitB_true]; exact h m none 0 (Keep.refl hw) .nil
 | some ad=>
  refine ⟨false,?_,?_⟩
  ·show eqV cx m (39+1) t _ _=_
   unfold eqV; simp only [h1]
  rw [splitB_false,mBind_iff]
  have k1:Keep m (newO m (row [] e false)):=(Keep.refl hw).newO
  have hb:(newO m (row [] e false)).hp.get m.nx=some (.cells (writeL .nil [] 0) 0 e false):=by rw [newO_get,if_pos rfl]; rfl
  have n1:(newO m (row [] e false)).nx=m.nx+1:=rfl
  generalize newO m (row [] e false)=m1 at k1 hb n1
  have ha1:=ha.keep hw k1
  have hl:=ha.1
  by_cases hn0:n=0
  ·subst hn0
   have hl0:l=[]:=List.length_eq_zero_iff.1 hl
   subst hl0
   refine ⟨some ⟨m.nx,0,none⟩,0,0,m1,?_,h m1 _ _ k1 (.empty m.nx _ (Nat.le_refl _) hb)⟩
   unfold appendA
   simp only [h1,h2,lenV,isRowD,firstL]
   have b1:(Nat.beq ([]:List Value).length (0*i.size) && Nat.blt 0 i.size && ([]:List Value).all one1)=true:=by
    rw [h3,Nat.zero_mul,show Nat.blt 0 s=true from Nat.ble_eq_true_of_le h6]; rfl
   simp only [b1]
  ·have hap:=append_new (cx:=cx) (t:=t) (e:=e) (s:=s) (m:=m1) (n:=0) (k:=n) (c:=0) (ck:=c) (a:=some ⟨m.nx,0,none⟩) (v:=some ad) (old:=[]) (new:=l.flatMap enc) hp
    (by unfold giveUp; simp only [hb]) rfl (by simp) (ha1.first hs h6) (by rw [flat_length hs,hl]) (by
     rw [List.all_eq_true]
     intro v hv
     obtain ⟨x,_,hx⟩:=List.mem_flatMap.1 hv
     exact List.all_eq_true.1 (ho x) v hx) (by omega) (by omega)
   rw [List.nil_append,Nat.zero_add] at hap
   refine ⟨_,_,_,_,hap,h _ _ _ k1.newO (.row m1.nx n _ (by omega) (by omega) Row.newO)⟩
theorem forN6 {α β γ α' β' γ':Type} {n:Nat} {m:Mem} {a0:α} {b0:β} {c0:γ} {d0:α'} {e0:β'} {f0:γ'} {B:(α→β→γ→α'→β'→γ'→Int→Mem→Nat→Prop)→α→β→γ→α'→β'→γ'→Int→Mem→Nat→Prop} (hn:n≤4611686018427387904) (R:Nat→α→β→γ→α'→β'→γ'→Mem→Prop) (h0:R 0 a0 b0 c0 d0 e0 f0 m)
  (hs:∀ k a b c d e f m1,k≤n→R k a b c d e f m1→∀ I w,(∀ a' b' c' d' e' f' m2,k < n→R (k+1) a' b' c' d' e' f' m2→∃ n',n' < w∧I a' b' c' d' e' f' (addI .i64 (k:Int) 1) m2 n')→B I a b c d e f (k:Int) m1 w) :
  ∃ Inv:α→β→γ→α'→β'→γ'→Int→Mem→Nat→Prop,(∃ w,Inv a0 b0 c0 d0 e0 f0 0 m w)∧∀ a b c d e f x m1 w,Inv a b c d e f x m1 w→B Inv a b c d e f x m1 w:=by
 refine ⟨fun a b c d e f x m1 w=>∃ k:Nat,x=(k:Int)∧k≤n∧w=n - k∧R k a b c d e f m1,⟨n,0,rfl,Nat.zero_le _,rfl,h0⟩,?_⟩
 rintro a b c d e f x m1 w ⟨k,rfl,hk,rfl,hR⟩
 exact hs k a b c d e f m1 hk hR _ _ fun a' b' c' d' e' f' m2 hlt h=>⟨n - (k+1),by omega,k+1,addI_one hn hlt,by omega,rfl,h⟩
theorem grow_push {cx:Cx} {m:Mem} {t e s n c:Nat} {a xa:Option Addr} {L vs:List Value} (hp:pushT cx t e s=true) (hw:Wf m) (hG:Grow m a n c s e L) (hx:firstL m s 1 (.slice xa 1 1)=some vs) (hvs:vs.length=s) (ho:vs.all one1=true) (hn:n≤1000000) :
  ∃ m',appendA cx m [t,t] [.slice a n c,.slice xa 1 1]=some (.slice (some ⟨m.nx,0,none⟩) (n+1) (n+1),m')∧Wf m'∧Fr m m' (blk a)∧m'.nx=m.nx+1∧Row m' m.nx (L ++ vs) e true:=by
 obtain ⟨i,z,h1,h2,h3,h4,h5,h6,h7⟩:=pushT_of hp
 have hbb:(2*(n+1)+192)*i.bytes≤140737488355328:=by
  have h1:(2*(n+1)+192)≤2000194:=by omega
  have h2:=Nat.mul_le_mul h1 h7
  omega
 obtain ⟨m',q1,q2,q3,q4,q5⟩:=append_grow hG h1 h1 rfl h2 h3 h4 h5 h6 (x:=.slice xa 1 1) (k:=1) rfl hx (by omega) ho (by omega) hbb (by omega)
 have hbl:=hG.blk_lt hw
 have q5':∀ b',b'≠m.nx→b'∉blk a→m'.hp.get b'=m.hp.get b':=fun b' h1 h2=>q5 b' h1 (fun b e e'=>h2 (by rw [e,e']; simp [blk]))
 refine ⟨m',q1,⟨by have:=hw.1; omega,fun b hb=>?_⟩,⟨by omega,q3,fun b hb hn'=>q5' b (by omega) hn'⟩,q2,q4⟩
 rw [q5' b (by omega) (fun h=>by have:=hbl b h; omega)]
 exact hw.2 b (by omega)
theorem own_push {cx:Cx} {m0 m:Mem} {t e s n c:Nat} {a xa:Option Addr} {L vs:List Value} (hp:pushT cx t e s=true) (hw:Wf m) (hfl:m.fl≤m0.nx) (ho:OwnSl m0 m e a n c L) (hL:L.length=n*s) (hx:firstL m s 1 (.slice xa 1 1)=some vs) (hvs:vs.length=s) (h1:vs.all one1=true) (hn:n≤900000) :
  ∃ m',appendA cx m [t,t] [.slice a n c,.slice xa 1 1]=some (.slice (some ⟨m.nx,0,none⟩) (n+1) (n+1),m')∧Wf m'∧Fr m m' (blk a)∧m'.nx=m.nx+1∧Row m' m.nx (L ++ vs) e true:=by
 cases ho with
 | nil=>exact grow_push hp hw (Grow.nil _ _ _) hx hvs h1 (by omega)
 | row b n l h0 hb hr=>exact grow_push hp hw ⟨hL,.inr ⟨b,rfl,rfl,by omega,hr⟩⟩ hx hvs h1 (by omega)
 | empty b cc hb hg=>
  have hap:=append_new (cx:=cx) (t:=t) (e:=e) (s:=s) (m:=m) (n:=0) (k:=1) (c:=0) (ck:=1) (a:=some ⟨b,0,none⟩) (v:=xa) (old:=[]) (new:=vs) hp
   (by unfold giveUp; simp only [hg]) rfl (by simp) hx (by omega) h1 (by omega) (by omega)
  rw [List.nil_append] at hap
  refine ⟨_,hap,hw.newO,(Fr.refl m _).newO,rfl,?_⟩
  exact Row.newO
theorem Arr.fr {α : Type} {enc:α→List Value} {s:Nat} {m m':Mem} {S:List Nat} {a:Option Addr} {n:Nat} {l:List α} (h:Arr enc s m a n l) (hw:Wf m) (f:Fr m m' S) (hS:∀ b∈blk a,b∉S):Arr enc s m' a n l:=
 ⟨h.1,fun i x hx=>by
  obtain ⟨b,o,rfl,hc⟩:=h.2 i x hx
  exact ⟨b,o,rfl,fun j v hv=>rd_fr f hw (hc j v hv) (hS b (by simp [blk]))⟩⟩
theorem Row.first1 {m:Mem} {b s:Nat} {vs:List Value} {e:TypeId} {x:Bool} (h:Row m b vs e x) (hs:vs.length=s):firstL m s 1 (.slice (some ⟨b,0,none⟩) 1 1)=some vs:=by
 simp only [firstL]
 have:=h.rowAt (o:=0) (k:=1*s) (by omega)
 rw [this]; congr 1
 rw [List.drop_zero,List.take_of_length_le (by omega)]
theorem OwnSl.hp {m0 m m0' m':Mem} {e:TypeId} {a:Option Addr} {n c:Nat} {l:List Value} (h:OwnSl m0 m e a n c l) (hn:m0'.nx≤m0.nx) (hh:m'.hp=m.hp):OwnSl m0' m' e a n c l:=by
 cases h with
 | nil=>exact .nil
 | empty b cc h1 hg=>exact .empty b cc (Nat.le_trans hn h1) (by rw [hh]; exact hg)
 | row b n l h0 h1 hr=>exact .row b n l h0 (Nat.le_trans hn h1) (hr.congr (by rw [hh]))
theorem Arr.hp {α : Type} {enc:α→List Value} {s:Nat} {m m':Mem} {a:Option Addr} {n:Nat} {l:List α} (h:Arr enc s m a n l) (hh:m'.hp=m.hp):Arr enc s m' a n l:=
 ⟨h.1,fun i x hx=>by
  obtain ⟨b,o,e,hc⟩:=h.2 i x hx
  exact ⟨b,o,e,fun j v hv=>(rd_congr (m:=m) (m':=m') (b:=b) (o:=o+i*s+j) (by rw [hh])).trans (hc j v hv)⟩⟩
end Go.AX
namespace Go.AX
set_option linter.unusedSimpArgs false
set_option linter.unusedVariables false
set_option linter.unusedSectionVars false
open Go
noncomputable section
structure SV where
 id:Int
 s:pm.Srv
 ja:Option Addr
 jn:Nat
 jc:Nat
 sec:Int
 held:Int
 num:Int
 ran:Int
structure JV where
 num:Int
 pa:Option Addr
 pn:Nat
 pc:Nat
 at_:Int
 done:Int
structure LV where
 most:Int
 holder:Int
 qa:Option Addr
 qn:Nat
 qc:Nat
 dead:Bool
def encS (v:SV):List Value:=[.int .i64 v.id,.int .i64 v.s.q,.int .i64 v.s.p,.int .i64 v.s.bud,.int .i64 v.s.due,.int .i64 v.s.mode,.slice v.ja v.jn v.jc,.int .i64 v.sec,.int .i64 v.held,.int .i64 v.num,.int .i64 v.ran]
def encJ (v:JV):List Value:=[.int .i64 v.num,.slice v.pa v.pn v.pc,.int .i64 v.at_,.int .i64 v.done]
def encL (v:LV):List Value:=[.int .i64 v.most,.int .i64 v.holder,.slice v.qa v.qn v.qc,.bool v.dead]
def encB (b:pm.Back):List Value:=[.int .i64 b.id,.int .i64 b.ran]
def encEv (e:pm.Ev):List Value:=[.int .i64 e.at_,.int .i64 e.kind,.int .i64 e.who,.int .i64 e.n]
def encI (x:Int):List Value:=[.int .i64 x]
def encP (x:pm.Step):List Value:=[.int .i64 x.1,.int .i64 x.2]
theorem encS_len (x:SV):(encS x).length=11:=rfl
theorem encJ_len (x:JV):(encJ x).length=4:=rfl
theorem encL_len (x:LV):(encL x).length=4:=rfl
theorem encB_len (x:pm.Back):(encB x).length=2:=rfl
theorem encEv_len (x:pm.Ev):(encEv x).length=4:=rfl
theorem encI_len (x:Int):(encI x).length=1:=rfl
theorem encP_len (x:pm.Step):(encP x).length=2:=rfl
theorem flat_one1 {α : Type} {enc:α→List Value} (h:∀ x,(enc x).all one1=true) (l:List α):(l.flatMap enc).all one1=true:=by
 rw [List.all_eq_true]
 intro v hv
 obtain ⟨x,_,hx⟩:=List.mem_flatMap.1 hv
 exact List.all_eq_true.1 (h x) v hx
theorem encS_one1 (x:SV):(encS x).all one1=true:=rfl
theorem encJ_one1 (x:JV):(encJ x).all one1=true:=rfl
theorem encL_one1 (x:LV):(encL x).all one1=true:=rfl
theorem encB_one1 (x:pm.Back):(encB x).all one1=true:=rfl
theorem encEv_one1 (x:pm.Ev):(encEv x).all one1=true:=rfl
theorem encI_one1 (x:Int):(encI x).all one1=true:=rfl
inductive All2 {α β : Type} (R:α→β→Prop):List α→List β→Prop
 | nil:All2 R [] []
 | cons {a b l k}:R a b→All2 R l k→All2 R (a :: l) (b :: k)
theorem All2.imp {α β : Type} {R S:α→β→Prop} (h:∀ a b,R a b→S a b):∀ {l:List α} {k:List β},All2 R l k→All2 S l k
 | _,_,.nil=>.nil
 | _,_,.cons x r=>.cons (h _ _ x) (r.imp h)
theorem All2.len {α β : Type} {R:α→β→Prop}:∀ {l:List α} {k:List β},All2 R l k→l.length=k.length
 | _,_,.nil=>rfl
 | _,_,.cons _ r=>by simp [r.len]
theorem All2.get {α β : Type} {R:α→β→Prop}:∀ {l:List α} {k:List β},All2 R l k→∀ {i:Nat} {a:α},l[i]? = some a→∃ b,k[i]? = some b∧R a b
 | _,_,.nil,i,a,h=>by cases h
 | _,_,.cons x r,0,a,h=>by cases h; exact ⟨_,rfl,x⟩
 | _,_,.cons x r,i+1,a,h=>by simpa using r.get (i:=i) (by simpa using h)
theorem All2.get' {α β : Type} {R:α→β→Prop}:∀ {l:List α} {k:List β},All2 R l k→∀ {i:Nat} {b:β},k[i]? = some b→∃ a,l[i]? = some a∧R a b
 | _,_,.nil,i,a,h=>by cases h
 | _,_,.cons x r,0,a,h=>by cases h; exact ⟨_,rfl,x⟩
 | _,_,.cons x r,i+1,a,h=>by simpa using r.get' (i:=i) (by simpa using h)
theorem All2.set {α β : Type} {R:α→β→Prop} {a:α} {b:β} (hab:R a b):∀ {l:List α} {k:List β},All2 R l k→∀ (i:Nat),All2 R (l.set i a) (k.set i b)
 | _,_,.nil,i=>.nil
 | _,_,.cons x r,0=>.cons hab r
 | _,_,.cons x r,i+1=>.cons x (r.set hab i)
theorem All2.append {α β : Type} {R:α→β→Prop}:∀ {l l':List α} {k k':List β},All2 R l k→All2 R l' k'→All2 R (l ++ l') (k ++ k')
 | _,_,_,_,.nil,h=>h
 | _,_,_,_,.cons x r,h=>.cons x (r.append h)
theorem All2.take {α β : Type} {R:α→β→Prop}:∀ {l:List α} {k:List β},All2 R l k→∀ (n:Nat),All2 R (l.take n) (k.take n)
 | _,_,.nil,n=>by simp; exact .nil
 | _,_,.cons x r,0=>.nil
 | _,_,.cons x r,n+1=>.cons x (r.take n)
theorem All2.drop {α β : Type} {R:α→β→Prop}:∀ {l:List α} {k:List β},All2 R l k→∀ (n:Nat),All2 R (l.drop n) (k.drop n)
 | _,_,.nil,n=>by simp; exact .nil
 | _,_,.cons x r,0=>.cons x r
 | _,_,.cons x r,n+1=>r.drop n
theorem All2.of {α β : Type} {R:α→β→Prop}:∀ {l:List α} {k:List β},l.length=k.length→(∀ (i:Nat) (a:α) (b:β),l[i]? = some a→k[i]? = some b→R a b)→All2 R l k
 | [],[],_,_=>.nil
 | a :: l,b :: k,hl,h=>.cons (h 0 a b rfl rfl) (All2.of (by simpa using hl) fun i a b h1 h2=>h (i+1) a b (by simpa using h1) (by simpa using h2))
 | [],_ :: _,hl,_=>by simp at hl
 | _ :: _,[],hl,_=>by simp at hl
structure RdJob (m:Mem) (v:JV) (j:pm.Job):Prop where
 num:v.num=j.num
 at_:v.at_=j.at_
 done:v.done=j.done
 prog:Arr encP 2 m v.pa v.pn j.prog
structure RdServ (m:Mem) (v:SV) (x:pm.Serv):Prop where
 id:v.id=x.id
 s:v.s=x.s
 sec:v.sec=x.sec
 held:v.held=x.held
 num:v.num=x.num
 ran:v.ran=x.ran
 jobs:∃ js,Arr encJ 4 m v.ja v.jn js∧All2 (RdJob m) js x.jobs
structure RdLock (m:Mem) (v:LV) (l:pm.Lock):Prop where
 most:v.most=l.most
 holder:v.holder=l.holder
 dead:v.dead=l.dead
 queue:Arr encI 1 m v.qa v.qn l.queue
def Cut (cx:Cx) (m:Mem) (a:Option Addr) (n c s:Nat):Prop:=n≤c∧(a=none∨∃ b o ob,a=some ⟨b,o,none⟩∧m.hp.get b=some ob∧sameSize cx m b s=true)
theorem Cut.keep {cx:Cx} {m m':Mem} {a:Option Addr} {n c s:Nat} (h:Cut cx m a n c s) (hw:Wf m) (k:Keep m m'):Cut cx m' a n c s:=by
 refine ⟨h.1,?_⟩
 rcases h.2 with h | ⟨b,o,ob,h1,h2,h3⟩
 ·exact .inl h
 ·have hg:=k.get b (hw.lt h2)
  refine .inr ⟨b,o,ob,h1,hg.trans h2,?_⟩
  unfold sameSize at h3 ⊢
  rw [hg]; exact h3
theorem Cut.cut {cx:Cx} {m:Mem} {a:Option Addr} {n c s t e i j:Nat} {lo hi:Option Value} (h:Cut cx m a n c s) (ht:cx.un.get t=some (.slice e)) (hs:sizeT cx e=some s) (hhi:boundA n hi c=some j) (hlo:boundA 0 lo j=some i) (hjc:j≤c) :
  ∃ a',sliceOp cx m t (.slice a n c) lo hi none=some (.slice a' (j - i) (c - i))∧((a=none∧a'=none)∨∃ b o,a=some ⟨b,o,none⟩∧a'=some ⟨b,o+i*s,none⟩):=by
 rcases h.2 with rfl | ⟨b,o,ob,rfl,_,h3⟩
 ·refine ⟨none,?_,.inl ⟨rfl,rfl⟩⟩
  unfold sliceOp
  simp only [ht,hs,hhi,hlo]
 ·exact ⟨_,sliceOp_at ht hs hhi hlo h3 hjc,.inr ⟨b,o,rfl,rfl⟩⟩
theorem Arr.cut {α : Type} {enc:α→List Value} {s:Nat} {m:Mem} {a a':Option Addr} {n i j:Nat} {l:List α} (h:Arr enc s m a n l) (hj:j≤n) (ha:(a=none∧a'=none)∨∃ b o,a=some ⟨b,o,none⟩∧a'=some ⟨b,o+i*s,none⟩):Arr enc s m a' (j - i) ((l.take j).drop i):=by
 refine ⟨by rw [List.length_drop,List.length_take]; have:=h.1; omega,fun k x hx=>?_⟩
 rw [List.getElem?_drop,List.getElem?_take] at hx
 split at hx
 ·obtain ⟨b,o,e1,e2⟩:=h.2 _ x hx
  rcases ha with ⟨rfl,_⟩ | ⟨b',o',rfl,rfl⟩
  ·cases e1
  ·cases e1
   refine ⟨b,o+i*s,rfl,?_⟩
   rw [show o+i*s+k*s=o+(i+k)*s by rw [Nat.add_mul]; omega]
   exact e2
 ·cases hx
structure RdSt (cx:Cx) (m:Mem) (M now:Int) (a1:Option Addr) (n1:Nat) (a2:Option Addr) (n2:Nat) (a3:Option Addr) (n3 c3:Nat) (σ : pm.St):Prop where
 em:M = σ.m
 enow:now = σ.now
 servs:∃ ss,Arr encS 11 m a1 n1 ss∧All2 (RdServ m) ss σ.servs
 sems:∃ ls,Arr encL 4 m a2 n2 ls∧All2 (RdLock m) ls σ.sems
 backs:Arr encB 2 m a3 n3 σ.backs
 cut:Cut cx m a3 n3 c3 2
theorem RdJob.keep {m m':Mem} {v:JV} {j:pm.Job} (h:RdJob m v j) (hw:Wf m) (k:Keep m m'):RdJob m' v j:=⟨h.num,h.at_,h.done,h.prog.keep hw k⟩
theorem RdServ.keep {m m':Mem} {v:SV} {x:pm.Serv} (h:RdServ m v x) (hw:Wf m) (k:Keep m m'):RdServ m' v x:=
 ⟨h.id,h.s,h.sec,h.held,h.num,h.ran,let ⟨js,a,b⟩:=h.jobs; ⟨js,a.keep hw k,b.imp fun _ _ r=>r.keep hw k⟩⟩
theorem RdLock.keep {m m':Mem} {v:LV} {l:pm.Lock} (h:RdLock m v l) (hw:Wf m) (k:Keep m m'):RdLock m' v l:=⟨h.most,h.holder,h.dead,h.queue.keep hw k⟩
theorem RdSt.keep {cx:Cx} {m m':Mem} {M now:Int} {a1:Option Addr} {n1:Nat} {a2:Option Addr} {n2:Nat} {a3:Option Addr} {n3 c3:Nat} {σ : pm.St} (h:RdSt cx m M now a1 n1 a2 n2 a3 n3 c3 σ) (hw:Wf m) (k:Keep m m'):RdSt cx m' M now a1 n1 a2 n2 a3 n3 c3 σ:=
 ⟨h.em,h.enow,let ⟨ss,a,b⟩:=h.servs; ⟨ss,a.keep hw k,b.imp fun _ _ r=>r.keep hw k⟩,let ⟨ls,a,b⟩:=h.sems; ⟨ls,a.keep hw k,b.imp fun _ _ r=>r.keep hw k⟩,h.backs.keep hw k,h.cut.keep hw k⟩
theorem RdSt.len1 {cx:Cx} {m:Mem} {M now:Int} {a1:Option Addr} {n1:Nat} {a2:Option Addr} {n2:Nat} {a3:Option Addr} {n3 c3:Nat} {σ : pm.St} (h:RdSt cx m M now a1 n1 a2 n2 a3 n3 c3 σ):σ.servs.length=n1:=by
 obtain ⟨ss,a,b⟩:=h.servs; rw [← b.len,a.1]
theorem RdSt.len2 {cx:Cx} {m:Mem} {M now:Int} {a1:Option Addr} {n1:Nat} {a2:Option Addr} {n2:Nat} {a3:Option Addr} {n3 c3:Nat} {σ : pm.St} (h:RdSt cx m M now a1 n1 a2 n2 a3 n3 c3 σ):σ.sems.length=n2:=by
 obtain ⟨ss,a,b⟩:=h.sems; rw [← b.len,a.1]
theorem RdSt.len3 {cx:Cx} {m:Mem} {M now:Int} {a1:Option Addr} {n1:Nat} {a2:Option Addr} {n2:Nat} {a3:Option Addr} {n3 c3:Nat} {σ : pm.St} (h:RdSt cx m M now a1 n1 a2 n2 a3 n3 c3 σ):σ.backs.length=n3:=h.backs.1
structure Small (σ : pm.St):Prop where
 servs:σ.servs.length≤1000
 sems:σ.sems.length≤1000
 backs:σ.backs.length≤1000
 jobs:∀ x∈σ.servs,x.jobs.length≤1000
 queue:∀ l∈σ.sems,l.queue.length≤1000
def Rise:List pm.Serv→Prop
 | []=>True
 | x :: r=>(∀ y∈r,x.id < y.id)∧Rise r
theorem Rise.lt:∀ {l:List pm.Serv},Rise l→∀ {i j:Nat} {x y:pm.Serv},i < j→l[i]? = some x→l[j]? = some y→x.id < y.id
 | [],_,i,j,x,y,_,h,_=>by cases h
 | z :: r,h,0,j+1,x,y,_,h1,h2=>by
  cases h1
  exact h.1 y (List.mem_of_getElem? (by simpa using h2))
 | z :: r,h,i+1,j+1,x,y,hij,h1,h2=>Rise.lt (i:=i) (j:=j) h.2 (by omega) (by simpa using h1) (by simpa using h2)
 | z :: r,h,i,0,x,y,hij,_,_=>by omega
theorem at_le (l:List pm.Serv) (id:Int):pm.at_ l id≤l.length:=by
 unfold pm.at_
 exact (List.takeWhile_prefix _).length_le
theorem at_lt:∀ {l:List pm.Serv} {id:Int} {i:Nat} {x:pm.Serv},l[i]? = some x→i < pm.at_ l id→x.id < id
 | [],id,i,x,h,_=>by cases h
 | y :: r,id,i,x,h,hi=>by
  unfold pm.at_ at hi
  rw [List.takeWhile_cons] at hi
  split at hi
  ·rename_i hy
   cases i with
   | zero=>cases h; exact ltI_true.1 hy
   | succ i=>exact at_lt (l:=r) (id:=id) (by simpa using h) (by unfold pm.at_; simpa using hi)
  ·simp at hi
theorem at_ge:∀ {l:List pm.Serv} (_:Rise l) {id:Int} {i:Nat} {x:pm.Serv},l[i]? = some x→pm.at_ l id≤i→id≤x.id
 | [],_,id,i,x,h,_=>by cases h
 | y :: r,hr,id,i,x,h,hi=>by
  unfold pm.at_ at hi
  rw [List.takeWhile_cons] at hi
  split at hi
  ·rename_i hy
   cases i with
   | zero=>simp at hi
   | succ i=>exact at_ge (l:=r) hr.2 (id:=id) (by simpa using h) (by unfold pm.at_; simpa using hi)
  ·rename_i hy
   have hy:id≤y.id:=by
    have:ltI y.id id=false:=by simpa using hy
    exact ltI_false.1 this
   cases i with
   | zero=>cases h; exact hy
   | succ i=>
    have:=hr.1 x (List.mem_of_getElem? (by simpa using h))
    omega
theorem at_of {l:List pm.Serv} (hr:Rise l) {id:Int} {i:Nat} (hi:i≤l.length) (h1:∀ j x,j < i→l[j]? = some x→x.id < id) (h2:∀ j x,i≤j→l[j]? = some x→id≤x.id):pm.at_ l id=i:=by
 have hle:=at_le l id
 rcases Nat.lt_trichotomy (pm.at_ l id) i with h | h | h
 ·have hx:=List.getElem?_eq_getElem (show pm.at_ l id < l.length by omega)
  have a:=h1 _ _ h hx
  have b:=at_ge hr hx (Nat.le_refl _)
  omega
 ·exact h
 ·have hx:=List.getElem?_eq_getElem (show i < l.length by omega)
  have a:=h2 _ _ (Nat.le_refl _) hx
  have b:=at_lt hx h
  omega
theorem at_congr:∀ {l k:List pm.Serv},l.map (·.id)=k.map (·.id)→∀ id,pm.at_ l id=pm.at_ k id
 | [],[],_,_=>rfl
 | [],_ :: _,h,_=>by simp at h
 | _ :: _,[],h,_=>by simp at h
 | x :: l,y :: k,h,id=>by
  simp only [List.map_cons,List.cons.injEq] at h
  have ih:=at_congr h.2 id
  unfold pm.at_ at ih ⊢
  rw [List.takeWhile_cons,List.takeWhile_cons,h.1]
  cases ltI y.id id with
  | false=>rfl
  | true=>simp [ih]
theorem rise_congr:∀ {l k:List pm.Serv},l.map (·.id)=k.map (·.id)→Rise l→Rise k
 | [],[],_,h=>h
 | [],_ :: _,h,_=>by simp at h
 | _ :: _,[],h,_=>by simp at h
 | x :: l,y :: k,h,hr=>by
  simp only [List.map_cons,List.cons.injEq] at h
  refine ⟨fun z hz=>?_,rise_congr h.2 hr.2⟩
  have:z.id∈l.map (·.id):=by rw [h.2]; exact List.mem_map_of_mem hz
  obtain ⟨u,hu,e⟩:=List.mem_map.1 this
  rw [← h.1,← e]; exact hr.1 u hu
theorem ids_set {l:List pm.Serv} {i:Nat} {x x':pm.Serv} (hx:l[i]? = some x) (h:x'.id=x.id):(l.set i x').map (·.id)=l.map (·.id):=by
 apply List.ext_getElem?
 intro j
 rw [List.getElem?_map,List.getElem?_map,List.getElem?_set]
 split
 ·rename_i e
  subst e
  rw [if_pos (List.getElem?_eq_some_iff.1 hx).1,hx]
  simp [h]
 ·rfl
theorem half {i j:Nat} (h:i+j < 1000000):cvI .i64 (shrI .u64 (cvI .u64 (addI .i64 (i:Int) (j:Int))) (1:Int))=(((i+j) / 2:Nat):Int):=by
 rw [addI_64 (by omega) (by omega)]
 have e1:cvI .u64 ((i:Int)+j)=((i+j:Nat):Int):=by
  unfold cvI
  rw [wrapI_fit (by show (0:Int)≤_; omega) (by show _≤(18446744073709551615:Int); omega)]; omega
 rw [e1]
 have e2:shrI .u64 ((i+j:Nat):Int) 1=(((i+j) / 2:Nat):Int):=by
  unfold shrI
  show ((i+j:Nat):Int).fdiv (2 ^ 1)=_
  rw [Int.fdiv_eq_ediv_of_nonneg _ (by decide)]
  omega
 rw [e2]
 unfold cvI
 exact wrapI_64 (by omega) (by omega)
end
end Go.AX
