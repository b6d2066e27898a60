import Derived.Test.YtiehbnmpaeedpaaGreatQR29
namespace Go.AX
set_option linter.unusedSimpArgs false
set_option linter.unusedVariables false
set_option linter.unusedSectionVars false
open Go
noncomputable section
def zeroOk (cx:Cx) (e:TypeId):Bool:=match zeroT cx e with
 | some z=>(cellsL z).all one1
 | none=>false
theorem repL_len (z:List Value):∀ n,(repL z n).length=n*z.length
 | 0=>by simp [repL]
 | n+1=>by show (z ++ repL z n).length=_; rw [List.length_append,repL_len z n,Nat.succ_mul]; omega
theorem repL_one {z:List Value} (h:z.all one1=true):∀ n,(repL z n).all one1=true
 | 0=>rfl
 | n+1=>by show (z ++ repL z n).all one1=true; rw [List.all_append,h,repL_one h n]; rfl
theorem zero_ap {cx:Cx} {m:Mem} {t e tx s n:Nat} (hp:pushT cx t e s=true) (htx:cx.un.get tx=some (.int .i64)) (hz:zeroOk cx e=true) (h0:0 < n) (hn:n≤1000000) :
  ∃ Z,Z.length=n*s∧appendA cx m [t,tx] [.slice none 0 0,.int .i64 (n:Int)]=some (.slice (some ⟨m.nx,0,none⟩) n n,newO m (row Z e true)):=by
 obtain ⟨i,z,h1,h2,h3,h4,h5,h6,h7⟩:=pushT_of hp
 subst h3
 have hz1:(cellsL z).all one1=true:=by unfold zeroOk at hz; rw [h4] at hz; exact hz
 have hb1:(2*(0+n)+192)*i.bytes≤140737488355328:=by
  have h1:(2*(0+n)+192)≤2000192:=by omega
  have h2:=Nat.mul_le_mul h1 h7
  omega
 have hb2:n*i.bytes≤281474976710656:=by
  have h2:=Nat.mul_le_mul hn h7
  omega
 refine ⟨repL (cellsL z) n,by rw [repL_len,h5],?_⟩
 unfold appendA
 simp only [h1,htx,h2,lenV,isRowD]
 unfold appendZ
 have c1:(decide (0≤(n:Int)) && decide ((n:Int)≤1000000000) && Nat.ble ((n:Int).toNat*i.bytes) 281474976710656 && Nat.beq (cellsL z).length i.size && Nat.blt 0 i.size)=true:=by
  rw [Int.toNat_natCast,decide_eq_true (show (0:Int)≤n by omega),decide_eq_true (show (n:Int)≤1000000000 by omega),Nat.ble_eq_true_of_le hb2,h5,Nat.beq_refl,show Nat.blt 0 i.size=true from Nat.ble_eq_true_of_le h6]
  rfl
 simp only [isIntD,h4,c1]
 rw [Int.toNat_natCast]
 unfold appendT
 have c2:(Nat.beq (repL (cellsL z) n).length (n*i.size) && Nat.blt 0 i.size && (repL (cellsL z) n).all one1)=true:=by
  rw [repL_len,h5,Nat.beq_refl,show Nat.blt 0 i.size=true from Nat.ble_eq_true_of_le h6,repL_one hz1]; rfl
 have c3:Nat.ble (0+n) 0=false:=by
  cases h:Nat.ble (0+n) 0 with
  | false=>rfl
  | true=>have:=Nat.le_of_ble_eq_true h; omega
 have c4:(Nat.ble ((2*(0+n)+192)*i.bytes) 140737488355328 && Nat.ble (0+n) 1099511627776)=true:=by
  rw [Nat.ble_eq_true_of_le hb1,Nat.ble_eq_true_of_le (by omega)]; rfl
 have c5:firstL m i.size 0 (.slice none 0 0)=some []:=rfl
 have c6:giveUp m none e i.size 0=some m:=rfl
 have c7:(Nat.beq ([]:List Value).length (0*i.size) && Nat.beq (cellsL z).length i.size)=true:=by
  rw [h5,Nat.zero_mul,Nat.beq_refl]; rfl
 simp only [c2,c3,c4,c5,h4,c6,c7]
 rw [Nat.zero_add,List.nil_append]
 rfl
theorem app_in {cx:Cx} {m:Mem} {t e s n k d ck b:Nat} {a:Option Addr} {L vs:List Value} {x:Bool} (hp:pushT cx t e s=true) (hR:Row m b L e x) (hL:L.length=n*s) (hfl:m.fl≤b) (hx:firstL m s d (.slice a d ck)=some vs) (hvs:vs.length=d*s) (ho:vs.all one1=true) (hk:k+d≤n) :
  ∃ m',appendA cx m [t,t] [.slice (some ⟨b,0,none⟩) k n,.slice a d ck]=some (.slice (some ⟨b,0,none⟩) (k+d) n,m')∧Row m' b (L.take (k*s) ++ vs ++ L.drop ((k+d)*s)) e x∧(∀ b',b'≠b→m'.hp.get b'=m.hp.get b')∧m'.nx=m.nx∧m'.fl=m.fl:=by
 obtain ⟨i,z,h1,h2,h3,h4,h5,h6,h7⟩:=pushT_of hp
 subst h3
 have c1:(Nat.beq vs.length (d*i.size) && Nat.blt 0 i.size && vs.all one1)=true:=by
  rw [hvs,Nat.beq_refl,show Nat.blt 0 i.size=true from Nat.ble_eq_true_of_le h6,ho]; rfl
 have hle:(k+d)*i.size≤n*i.size:=Nat.mul_le_mul_right _ hk
 rw [Nat.add_mul] at hle
 unfold appendA
 simp only [h1,h2,lenV,isRowD,hx,c1,Nat.ble_eq_true_of_le hk]
 cases hv:vs with
 | nil=>
  have hd:d*i.size=0:=by rw [← hvs,hv]; rfl
  refine ⟨m,rfl,?_,fun _ _=>rfl,rfl,rfl⟩
  rw [List.append_nil,Nat.add_mul,hd,Nat.add_zero,List.take_append_drop]; exact hR
 | cons v r=>
  rw [← hv]
  have hok:okW m b (0+k*i.size) vs.length:=hR.okW hfl (by rw [hvs,hL]; omega)
  have hst:=storeL_of_okW hok ho
  refine ⟨wr m b (0+k*i.size) vs,?_,?_,fun b' hb'=>wr_get hb',by simp,by simp⟩
  ·rw [hv] at hst ⊢
   show (match storeL m (addA ⟨b,0,none⟩ (k*i.size)) (v :: r) with | some m'=>some (Value.slice (some ⟨b,0,none⟩) (k+d) n,m') | none=>none)=_
   rw [show addA ⟨b,0,none⟩ (k*i.size)=⟨b,0+k*i.size,none⟩ from rfl,hst]
  ·have:=hR.wr (o:=0+k*i.size) (vs:=vs) (by rw [hvs,hL]; omega)
   rw [Nat.zero_add] at this ⊢
   unfold over at this
   rw [hvs] at this
   rw [Nat.add_mul]; exact this
theorem over_app {X Y V:List Value} (h:Y.length=V.length):over (X ++ Y) X.length V=X ++ V:=by
 unfold over
 rw [List.take_left,List.drop_eq_nil_of_le (by rw [List.length_append]; omega),List.append_nil]
theorem delete_g {cx:Cx} {m:Mem} {t e s b n i:Nat} {L:List Value} (hp:pushT cx t e s=true) (hz:zeroOk cx e=true) (hw:Wf m) (hR:Row m b L e true) (hL:L.length=n*s) (hi:i < n) (hfl:m.fl≤b) (hone:L.all one1=true) :
  (∃ a n' c',sliceOp cx m t (.slice (some ⟨b,0,none⟩) n n) (some (.int .i64 (i:Int))) (some (.int .i64 ((i+1:Nat):Int))) (some (.int .i64 (lenI n)))=some (.slice a n' c')) ∧
  sliceOp cx (bump m 8) t (.slice (some ⟨b,0,none⟩) n n) none (some (.int .i64 (i:Int))) none=some (.slice (some ⟨b,0,none⟩) i n) ∧
  sliceOp cx (bump m 8) t (.slice (some ⟨b,0,none⟩) n n) (some (.int .i64 ((i+1:Nat):Int))) none none=some (.slice (some ⟨b,0+(i+1)*s,none⟩) (n - (i+1)) (n - (i+1))) ∧
  ∃ m1,appendA cx (bump m 8) [t,t] [.slice (some ⟨b,0,none⟩) i n,.slice (some ⟨b,0+(i+1)*s,none⟩) (n - (i+1)) (n - (i+1))]=some (.slice (some ⟨b,0,none⟩) (i+(n - (i+1))) n,m1) ∧
   sliceOp cx m1 t (.slice (some ⟨b,0,none⟩) (i+(n - (i+1))) n) (some (.int .i64 (lenI (i+(n - (i+1)))))) (some (.int .i64 (lenI n))) none=some (.slice (some ⟨b,0+(i+(n - (i+1)))*s,none⟩) (n - (i+(n - (i+1)))) (n - (i+(n - (i+1))))) ∧
   ∃ m2 Z,clearA cx m1 [t] [.slice (some ⟨b,0+(i+(n - (i+1)))*s,none⟩) (n - (i+(n - (i+1)))) (n - (i+(n - (i+1))))]=some (.tuple #[],m2)∧Row m2 b (L.take (i*s) ++ L.drop ((i+1)*s) ++ Z) e true∧(∀ b',b'≠b→m2.hp.get b'=m.hp.get b')∧m2.nx=m.nx+8∧m2.fl=m.fl:=by
 obtain ⟨inf,z,h1,h2,h3,h4,h5,h6,h7⟩:=pushT_of hp
 have hsz:sizeT cx e=some s:=by unfold sizeT; rw [h2,← h3]
 have hR8:Row (bump m 8) b L e true:=hR.congr rfl
 have hd:(i+1)*s≤n*s:=Nat.mul_le_mul_right _ hi
 have hd2:(n - (i+1))*s=n*s - (i+1)*s:=Nat.sub_mul _ _ _
 have hz1:(cellsL z).all one1=true:=by unfold zeroOk at hz; rw [h4] at hz; exact hz
 refine ⟨?_,?_,?_,?_⟩
 ·have e1:boundA n (some (.int .i64 (lenI n))) n=some n:=boundA_some (Nat.le_refl _)
  have e2:boundA n (some (.int .i64 ((i+1:Nat):Int))) n=some (i+1):=boundA_some hi
  have e3:boundA 0 (some (.int .i64 (i:Int))) (i+1)=some i:=boundA_some (Nat.le_succ _)
  have e4:Nat.beq (n - i) 0=false:=Tr.beq_false.2 (by omega)
  unfold sliceOp
  simp only [h1,hsz,e1,e2,e3,e4]
  exact ⟨_,_,_,rfl⟩
 ·have:=sliceOp_at (cx:=cx) (m:=bump m 8) (t:=t) (e:=e) (s:=s) (b:=b) (o:=0) (n:=n) (c:=n) (lo:=none) (hi:=some (.int .i64 (i:Int))) (i:=0) (j:=i) h1 hsz (boundA_some (by omega)) rfl (hR8.sameSize hsz) (by omega)
  simpa using this
 ·exact sliceOp_at (lo:=some (.int .i64 ((i+1:Nat):Int))) (hi:=none) h1 hsz rfl (boundA_some hi) (hR8.sameSize hsz) (Nat.le_refl _)
 ·have hf:firstL (bump m 8) s (n - (i+1)) (.slice (some ⟨b,0+(i+1)*s,none⟩) (n - (i+1)) (n - (i+1)))=some (L.drop ((i+1)*s)):=by
   cases hk:n - (i+1) with
   | zero=>
    have:L.drop ((i+1)*s)=[]:=List.drop_eq_nil_of_le (by rw [hk] at hd2; omega)
    rw [this]; rfl
   | succ k=>
    simp only [firstL]
    have:=hR8.rowAt (o:=0+(i+1)*s) (k:=(k+1)*s) (by rw [hL,← hk,hd2]; omega)
    rw [this]; congr 1
    rw [List.take_of_length_le (by rw [List.length_drop,hL,← hk,hd2]; omega),Nat.zero_add]
  obtain ⟨m1,q1,q2,q3,q4,q5⟩:=app_in (cx:=cx) (t:=t) (e:=e) (s:=s) (n:=n) (k:=i) (d:=n - (i+1)) (ck:=n - (i+1)) hp hR8 hL hfl hf (by rw [List.length_drop,hL,hd2]) (by
   rw [List.all_eq_true] at hone ⊢
   exact fun v hv=>hone v (List.mem_of_mem_drop hv)) (by omega)
  refine ⟨m1,q1,?_,?_⟩
  ·exact sliceOp_at (lo:=some (.int .i64 (lenI (i+(n - (i+1)))))) (hi:=some (.int .i64 (lenI n))) h1 hsz (boundA_some (Nat.le_refl _)) (boundA_some (i:=i+(n - (i+1))) (by omega)) (q2.sameSize hsz) (Nat.le_refl _)
  ·have hn1:n - (i+(n - (i+1)))=1:=by omega
   have hn2:i+(n - (i+1))=n - 1:=by omega
   rw [hn1,hn2]
   rw [hn2] at q2
   have hn3:(n - 1)*s+s=n*s:=by rw [← Nat.succ_mul]; congr 1; omega
   have hlen:(L.take (i*s) ++ L.drop ((i+1)*s)).length=(n - 1)*s:=by
    rw [List.length_append,List.length_take,List.length_drop,hL]
    have e0:i*s≤n*s:=Nat.mul_le_mul_right _ (by omega)
    have e1:(i+1)*s=i*s+s:=Nat.succ_mul i s
    generalize (i+1)*s=X at *
    generalize (n - 1)*s=Y at *
    omega
   have hlen2:(L.drop ((n - 1)*s)).length=s:=by rw [List.length_drop,hL]; omega
   have hok:okW m1 b (0+(n - 1)*s) (repL (cellsL z) 1).length:=q2.okW (by rw [q5]; exact hfl) (by rw [repL_len,h5,List.length_append,hlen,hlen2]; omega)
   have hst:=storeL_of_okW hok (repL_one hz1 1)
   refine ⟨wr m1 b (0+(n - 1)*s) (repL (cellsL z) 1),repL (cellsL z) 1,?_,?_,fun b' hb'=>?_,by simp [q4],by simp [q5]⟩
   ·unfold clearA
    have hb0:Nat.blt 0 (cellsL z).length=true:=by rw [h5]; exact Nat.ble_eq_true_of_le h6
    simp only [h1,h4,hb0,hst]
   ·have:=q2.wr (o:=0+(n - 1)*s) (vs:=repL (cellsL z) 1) (by rw [repL_len,h5,List.length_append,hlen,hlen2]; omega)
    have e1:over (L.take (i*s) ++ L.drop ((i+1)*s) ++ L.drop ((n - 1)*s)) (0+(n - 1)*s) (repL (cellsL z) 1)=L.take (i*s) ++ L.drop ((i+1)*s) ++ repL (cellsL z) 1:=by
     have e2:=over_app (X:=L.take (i*s) ++ L.drop ((i+1)*s)) (Y:=L.drop ((n - 1)*s)) (V:=repL (cellsL z) 1) (by rw [hlen2,repL_len,h5]; omega)
     rw [hlen] at e2
     rw [Nat.zero_add]; exact e2
    rw [e1] at this; exact this
   ·rw [wr_get hb',q3 b' hb']; rfl
end
end Go.AX
