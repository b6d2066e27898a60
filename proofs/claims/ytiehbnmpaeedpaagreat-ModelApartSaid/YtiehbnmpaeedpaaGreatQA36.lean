import Derived.Test.YtiehbnmpaeedpaaGreatQA33
import Derived.Test.YtiehbnmpaeedpaaGreatQA35
namespace Go.AX
set_option linter.unusedSimpArgs false
set_option linter.unusedVariables false
set_option linter.unusedSectionVars false
open Go
noncomputable section
section
variable {T:Tys} {wj wq:Nat→Kd} {m0 m m2 mo:Mem} {lam:Nat→Lb} {a1 a2 a3:Option Addr} {n1 c1 n2 c2 n3 c3:Nat} {ss:List SV} {js:Nat→List JV} {ls:List LV} {qs:Nat→List Int} {σ : pm.St}
theorem Ow.atB (h:Ow T wj wq m0 m lam a1 n1 c1 a2 n2 c2 a3 n3 c3 ss js ls qs σ) {i:Nat} {x:pm.Back} (hx:σ.backs[i]? = some x) :
  ∃ b o,a3=some ⟨b,o,none⟩∧lam b = .bk∧∀ k u,(encB x)[k]? = some u→rd m b (o+Int.toNat (i:Int)*2+k)=some u:=by
 obtain ⟨b,o,e,hc⟩:=(h.s3.arr encB_len h.s3n).2 i x hx
 exact ⟨b,o,e,h.s3l b (by rw [e]; simp [blk]),fun k u hu=>by rw [Int.toNat_natCast]; exact hc k u hu⟩
theorem Ow.setB (h:Ow T wj wq m0 m lam a1 n1 c1 a2 n2 c2 a3 n3 c3 ss js ls qs σ) {b o i k:Nat} {x x':pm.Back} {vs:List Value} (hx:σ.backs[i]? = some x) (hab:a3=some ⟨b,o,none⟩) (hk:k+vs.length≤2) (he:over (encB x) k vs=encB x') :
  okW m b (o+Int.toNat (i:Int)*2+k) vs.length∧Ow T wj wq m0 (wr m b (o+Int.toNat (i:Int)*2+k) vs) lam a1 n1 c1 a2 n2 c2 a3 n3 c3 ss js ls qs { σ with backs:=σ.backs.set i x' }:=by
 have hw:=h.keep.wf
 obtain ⟨b',o',e,hok,hc⟩:=h.s3.set encB_len (by omega) h.s3n hx hk he (by have:=h.keep.fl; have:=h.fl0; omega)
 rw [hab] at e; cases e
 refine ⟨hok,?_⟩
 have hlb:lam b = .bk:=h.s3l b (by rw [hab]; simp [blk])
 have hnb:m0.nx≤b:=h.new b (by rw [hlb]; simp)
 have f:Fr m (wr m b (o+Int.toNat (i:Int)*2+k) vs) [b]:=(Fr.refl m _).wr (.inl (by simp))
 have ne:∀ {b':Nat} {L:Lb},lam b'=L→L≠.bk→b'∉[b]:=fun e hn hs=>hn (by rw [← e,List.mem_singleton.1 hs,hlb])
 have nb:∀ b'∈[b],lam b'≠.pr:=fun b' hb'=>by rw [List.mem_singleton.1 hb',hlb]; simp
 refine { h with keep:=h.keep.wr hnb,lab:=fun b hb=>by simpa using h.lab b hb,s3:=hc,s3n:=by show (σ.backs.set i x').length=n3; rw [List.length_set]; exact h.s3n,s1:=h.s1.fr hw f (fun b hb=>ne (h.s1l b hb) (by simp)),s2:=h.s2.fr hw f (fun b hb=>ne (h.s2l b hb) (by simp)),jb:=fun k u hu=>?_,qu:=fun k u hu=>?_,ds:=fun j u x hu hx=>?_ }
 ·exact (h.jb k u hu).fr hw f nb (fun b' hb'=>by rw [List.mem_singleton.1 hb',hlb]; simp)
 ·exact (h.qu k u hu).fr hw f nb (fun b' hb'=>by rw [List.mem_singleton.1 hb',hlb]; simp)
 ·obtain ⟨p,q⟩:=h.ds j u x hu hx
  exact ⟨p,q.imp fun _ _ r=>r.fr hw f nb⟩
theorem Ow.newB (h:Ow T wj wq m0 m lam a1 n1 c1 a2 n2 c2 a3 n3 c3 ss js ls qs σ) {a':Option Addr} {n' c':Nat} {l':List pm.Back} (k:Keep m m2) (ho:OwnSl mo m2 T.B a' n' c' (l'.flatMap encB)) (hn:m.nx≤mo.nx) (hl:l'.length=n') :
  ∃ lam',Ow T wj wq m0 m2 lam' a1 n1 c1 a2 n2 c2 a' n' c' ss js ls qs { σ with backs:=l' }∧(∀ b,lam b≠.no→lam' b=lam b)∧(∀ b,b < m.nx→lam' b=lam b):=by
 have h2:=h.then k
 have hbl:∀ b∈blk a',m.nx≤b∧b < m2.nx:=fun b hb=>⟨Nat.le_trans hn (ho.blk b hb),ho.lt k.wf b hb⟩
 have hnx:=h.keep.nx
 have key:∀ lam',(∀ b∈blk a',lam' b = .bk)→Ow T wj wq m0 m2 lam' a1 n1 c1 a2 n2 c2 a3 n3 c3 ss js ls qs σ→Ow T wj wq m0 m2 lam' a1 n1 c1 a2 n2 c2 a' n' c' ss js ls qs { σ with backs:=l' }:=fun lam' hl' h'=>
  { h' with s3:=(ho.csl true).old (Nat.le_trans hnx hn),s3l:=hl',s3n:=hl }
 cases a' with
 | none=>exact ⟨lam,key lam (fun b hb=>by cases hb) h2,fun b _=>rfl,fun b _=>rfl⟩
 | some ad=>
  obtain ⟨q1,q2⟩:=hbl ad.block (by simp [blk])
  have hno:lam ad.block = .no:=h.noNew q1
  refine ⟨upF lam ad.block .bk,key _ (fun b hb=>?_) (h2.own hno q2),fun b hb=>?_,fun b hb=>?_⟩
  ·simp [blk] at hb; subst hb; exact upF_self ..
  ·rw [upF_ne]; intro e; subst e; exact hb hno
  ·rw [upF_ne]; intro e; omega
theorem Ow.apartS {cx:Cx} {m':Mem} {S:List Nat} (h:Ow T wj wq m0 m lam a1 n1 c1 a2 n2 c2 a3 n3 c3 ss js ls qs σ) (f:Fr m m' S) (hS:∀ b∈S,lam b = .sv) (hz:sizeT cx T.B=some 2) :
  All2 (RdServ m') ss σ.servs∧(∃ ls,Arr encL 4 m' a2 n2 ls∧All2 (RdLock m') ls σ.sems)∧Arr encB 2 m' a3 n3 σ.backs∧Cut cx m' a3 n3 c3 2:=by
 have hw:=h.keep.wf
 have ne:∀ {b:Nat} {L:Lb},lam b=L→L≠.sv→b∉S:=fun e hn hs=>hn (by rw [← e,hS _ hs])
 have nb:∀ b'∈S,lam b'≠.pr:=fun b' hb'=>by rw [hS b' hb']; simp
 have h3:=h.s3.fr hw f (fun b hb=>ne (h.s3l b hb) (by simp))
 refine ⟨All2.of (by rw [h.s1n,h.s1d]) fun i v x hv hx=>?_,⟨ls,(h.s2.fr hw f (fun b hb=>ne (h.s2l b hb) (by simp))).arr encL_len h.s2n,All2.of (by rw [h.s2n,h.s2d]) fun k v l hv hl=>?_⟩,h3.arr encB_len h.s3n,⟨by rw [h.s3.cap]; exact Nat.le_refl _,?_⟩⟩
 ·obtain ⟨p,q⟩:=h.ds i v x hv hx
  exact ⟨p.id,p.s,p.sec,p.held,p.num,p.ran,js i,((h.jb i v hv).fr hw f nb (fun b' hb'=>by rw [hS b' hb']; simp)).arr encJ_len,q.imp fun _ _ r=>let r:=r.fr hw f nb; ⟨r.num,r.at_,r.done,r.prog⟩⟩
 ·obtain ⟨p,q⟩:=h.dl k v l hv hl
  exact ⟨p.most,p.holder,p.dead,by rw [← q]; exact ((h.qu k v hv).fr hw f nb (fun b' hb'=>by rw [hS b' hb']; simp)).arr encI_len⟩
 ·generalize σ.backs.flatMap encB=L at h3
  cases h3 with
  | nil=>exact .inl rfl
  | empty b cc h1 h2=>exact .inr ⟨b,0,_,rfl,h2,by unfold sameSize; rw [h2]⟩
  | row b n pre l hw h1 h2=>
   obtain ⟨c',h3,_⟩:=id h2
   exact .inr ⟨b,_,_,rfl,h3,h2.sameSize hz⟩
theorem Ow.apartB {m':Mem} {S:List Nat} (h:Ow T wj wq m0 m lam a1 n1 c1 a2 n2 c2 a3 n3 c3 ss js ls qs σ) (f:Fr m m' S) (hS:∀ b∈S,lam b = .bk) :
  (∃ ss,Arr encS 11 m' a1 n1 ss∧All2 (RdServ m') ss σ.servs)∧(∃ ls,Arr encL 4 m' a2 n2 ls∧All2 (RdLock m') ls σ.sems):=by
 have hw:=h.keep.wf
 have ne:∀ {b:Nat} {L:Lb},lam b=L→L≠.bk→b∉S:=fun e hn hs=>hn (by rw [← e,hS _ hs])
 have nb:∀ b'∈S,lam b'≠.pr:=fun b' hb'=>by rw [hS b' hb']; simp
 refine ⟨⟨ss,(h.s1.fr hw f (fun b hb=>ne (h.s1l b hb) (by simp))).arr encS_len h.s1n,All2.of (by rw [h.s1n,h.s1d]) fun i v x hv hx=>?_⟩,⟨ls,(h.s2.fr hw f (fun b hb=>ne (h.s2l b hb) (by simp))).arr encL_len h.s2n,All2.of (by rw [h.s2n,h.s2d]) fun k v l hv hl=>?_⟩⟩
 ·obtain ⟨p,q⟩:=h.ds i v x hv hx
  exact ⟨p.id,p.s,p.sec,p.held,p.num,p.ran,js i,((h.jb i v hv).fr hw f nb (fun b' hb'=>by rw [hS b' hb']; simp)).arr encJ_len,q.imp fun _ _ r=>let r:=r.fr hw f nb; ⟨r.num,r.at_,r.done,r.prog⟩⟩
 ·obtain ⟨p,q⟩:=h.dl k v l hv hl
  exact ⟨p.most,p.holder,p.dead,by rw [← q]; exact ((h.qu k v hv).fr hw f nb (fun b' hb'=>by rw [hS b' hb']; simp)).arr encI_len⟩
end
end
end Go.AX
namespace Go.AX.pm
set_option linter.unusedSimpArgs false
set_option linter.unusedVariables false
set_option linter.unusedSectionVars false
open Go.AX
noncomputable section
structure Act where
 op:Int
 who:Int
 q:Int
 p:Int
 n:Int
 steps:List Step
def tickN:Nat→St→St
 | 0,s=>s
 | k+1,s=>(tick (tickN k s)).1
def act (s:St) (a:Act):St:=
 bif eqI a.op 0 then (add s a.who a.q a.p).1 else
 bif eqI a.op 1 then (drop s a.who).1 else
 bif eqI a.op 2 then (release s a.who a.steps).1 else
 bif eqI a.op 3 || eqI a.op 4 then (ground s a.who (eqI a.op 3)).1 else
 bif eqI a.op 5 then (settle s).1 else tickN (min a.n.toNat 60) s
def acts:St→List Act→St
 | s,[]=>s
 | s,a :: r=>acts (act s a) r
theorem acts_snoc:∀ (l:List Act) (s:St) (a:Act),acts s (l ++ [a])=act (acts s l) a
 | [],_,_=>rfl
 | _ :: r,s,a=>acts_snoc r _ a
theorem tickN_iv {B:Int} {σ : St} (h:Iv B σ):∀ k,Iv B (tickN k σ)∧(tickN k σ).m = σ.m∧(tickN k σ).sems.length = σ.sems.length∧σ.now≤(tickN k σ).now∧(tickN k σ).now≤σ.now+k
 | 0=>⟨h,rfl,rfl,Int.le_refl _,by show σ.now≤_; omega⟩
 | k+1=>by
  obtain ⟨a,b,c,d,e⟩:=tickN_iv h k
  obtain ⟨a',b',c',d',_⟩:=tick_iv a
  refine ⟨a',b'.trans b,c'.trans c,?_,?_⟩
  ·show _≤(tick (tickN k σ)).1.now
   rw [d']; split <;> omega
  ·show (tick (tickN k σ)).1.now≤_
   rw [d']; split <;> omega
theorem settle_now' {B:Int} {σ : St} (h:Iv B σ):(settle σ).1.now = σ.now:=(settle_now h).1
theorem act_iv {B:Int} {σ : St} (h:Iv B σ) (hB:0≤B) (hB2:B < 4611686018427387904) (a:Act):Iv (B+1) (act σ a)∧(act σ a).m = σ.m∧σ.now≤(act σ a).now∧(act σ a).now≤σ.now+60:=by
 unfold act
 cases eqI a.op 0 with
 | true=>
  obtain ⟨x,y,z,_⟩:=add_iv h hB a.who a.q a.p
  exact ⟨x.mono (by omega),y,by show _≤(add σ a.who a.q a.p).1.now; rw [z]; exact Int.le_refl _,by show (add σ a.who a.q a.p).1.now≤_; rw [z]; omega⟩
 | false=>
 cases eqI a.op 1 with
 | true=>
  obtain ⟨x,y,z,_⟩:=drop_iv h a.who
  exact ⟨x.mono (by omega),y,by show _≤(drop σ a.who).1.now; rw [z]; exact Int.le_refl _,by show (drop σ a.who).1.now≤_; rw [z]; omega⟩
 | false=>
 cases eqI a.op 2 with
 | true=>
  obtain ⟨x,y,z,_⟩:=release_iv h hB2 a.who a.steps
  exact ⟨x,y,by show _≤(release σ a.who a.steps).1.now; rw [z]; exact Int.le_refl _,by show (release σ a.who a.steps).1.now≤_; rw [z]; omega⟩
 | false=>
 cases (eqI a.op 3 || eqI a.op 4) with
 | true=>
  obtain ⟨x,y,z,_⟩:=ground_iv h a.who (eqI a.op 3)
  exact ⟨x.mono (by omega),y,by show _≤(ground σ a.who (eqI a.op 3)).1.now; rw [z]; exact Int.le_refl _,by show (ground σ a.who (eqI a.op 3)).1.now≤_; rw [z]; omega⟩
 | false=>
 cases eqI a.op 5 with
 | true=>
  obtain ⟨x,y,z⟩:=settle_iv h
  have w:=settle_now' h
  exact ⟨x.mono (by omega),z,by show _≤(settle σ).1.now; rw [w]; exact Int.le_refl _,by show (settle σ).1.now≤_; rw [w]; omega⟩
 | false=>
  obtain ⟨x,y,_,z,w⟩:=tickN_iv h (min a.n.toNat 60)
  exact ⟨x.mono (by omega),y,z,by
   show (tickN (min a.n.toNat 60) σ).now≤_
   have:min a.n.toNat 60≤60:=Nat.min_le_right _ _
   omega⟩
theorem acts_iv:∀ (l:List Act) {B:Int} {σ : St},Iv B σ→0≤B→B+l.length < 4611686018427387904→Iv (B+l.length) (acts σ l)∧(acts σ l).m = σ.m∧σ.now≤(acts σ l).now∧(acts σ l).now≤σ.now+60*l.length
 | [],B,σ,h,_,_=>⟨h.mono (by simp),rfl,Int.le_refl _,by show σ.now≤_; simp⟩
 | a :: r,B,σ,h,h0,hB=>by
  simp only [List.length_cons] at hB ⊢
  obtain ⟨x,y,z,w⟩:=act_iv h h0 (by omega) a
  obtain ⟨x',y',z',w'⟩:=acts_iv r x (by omega) (by omega)
  refine ⟨x'.mono (by omega),y'.trans y,?_,?_⟩
  ·show _≤(acts (act σ a) r).now; omega
  ·show (acts (act σ a) r).now≤_; omega
end
end Go.AX.pm
