import Derived.Test.YtiehbnmpaeedpaaGreatQS33
import Derived.Test.YtiehbnmpaeedpaaGreatQS35
namespace Go.AX
set_option linter.unusedSimpArgs false
set_option linter.unusedVariables false
set_option linter.unusedSectionVars false
open Go
noncomputable section
section
variable {T:Tys} {wj wq:Nat→Kd} {m0 m m2 mo:Mem} {lam:Nat→Lb} {a1 a2 a3:Option Addr} {n1 c1 n2 c2 n3 c3:Nat} {ss:List SV} {js:Nat→List JV} {ls:List LV} {qs:Nat→List Int} {σ : pm.St}
theorem Ow.atB (h:Ow T wj wq m0 m lam a1 n1 c1 a2 n2 c2 a3 n3 c3 ss js ls qs σ) {i:Nat} {x:pm.Back} (hx:σ.backs[i]? = some x) :
  ∃ b o,a3=some ⟨b,o,none⟩∧lam b = .bk∧∀ k u,(encB x)[k]? = some u→rd m b (o+Int.toNat (i:Int)*2+k)=some u:=by
 obtain ⟨b,o,e,hc⟩:=(h.s3.arr encB_len h.s3n).2 i x hx
 exact ⟨b,o,e,h.s3l b (by rw [e]; simp [blk]),fun k u hu=>by rw [Int.toNat_natCast]; exact hc k u hu⟩
theorem Ow.setB (h:Ow T wj wq m0 m lam a1 n1 c1 a2 n2 c2 a3 n3 c3 ss js ls qs σ) {b o i k:Nat} {x x':pm.Back} {vs:List Value} (hx:σ.backs[i]? = some x) (hab:a3=some ⟨b,o,none⟩) (hk:k+vs.length≤2) (he:over (encB x) k vs=encB x') :
  okW m b (o+Int.toNat (i:Int)*2+k) vs.length∧Ow T wj wq m0 (wr m b (o+Int.toNat (i:Int)*2+k) vs) lam a1 n1 c1 a2 n2 c2 a3 n3 c3 ss js ls qs { σ with backs:=σ.backs.set i x' }:=by
 have hw:=h.keep.wf
 obtain ⟨b',o',e,hok,hc⟩:=h.s3.set encB_len (by omega) h.s3n hx hk he (by have:=h.keep.fl; have:=h.fl0; omega)
 rw [hab] at e; cases e
 refine ⟨hok,?_⟩
 have hlb:lam b = .bk:=h.s3l b (by rw [hab]; simp [blk])
 have hnb:m0.nx≤b:=h.new b (by rw [hlb]; simp)
 have f:Fr m (wr m b (o+Int.toNat (i:Int)*2+k) vs) [b]:=(Fr.refl m _).wr (.inl (by simp))
 have ne:∀ {b':Nat} {L:Lb},lam b'=L→L≠.bk→b'∉[b]:=fun e hn hs=>hn (by rw [← e,List.mem_singleton.1 hs,hlb])
 have nb:∀ b'∈[b],lam b'≠.pr:=fun b' hb'=>by rw [List.mem_singleton.1 hb',hlb]; simp
 refine { h with keep:=h.keep.wr hnb,lab:=fun b hb=>by simpa using h.lab b hb,s3:=hc,s3n:=by show (σ.backs.set i x').length=n3; rw [List.length_set]; exact h.s3n,s1:=h.s1.fr hw f (fun b hb=>ne (h.s1l b hb) (by simp)),s2:=h.s2.fr hw f (fun b hb=>ne (h.s2l b hb) (by simp)),jb:=fun k u hu=>?_,qu:=fun k u hu=>?_,ds:=fun j u x hu hx=>?_ }
 ·exact (h.jb k u hu).fr hw f nb (fun b' hb'=>by rw [List.mem_singleton.1 hb',hlb]; simp)
 ·exact (h.qu k u hu).fr hw f nb (fun b' hb'=>by rw [List.mem_singleton.1 hb',hlb]; simp)
 ·obtain ⟨p,q⟩:=h.ds j u x hu hx
  exact ⟨p,q.imp fun _ _ r=>r.fr hw f nb⟩
theorem Ow.newB (h:Ow T wj wq m0 m lam a1 n1 c1 a2 n2 c2 a3 n3 c3 ss js ls qs σ) {a':Option Addr} {n' c':Nat} {l':List pm.Back} (k:Keep m m2) (ho:OwnSl mo m2 T.B a' n' c' (l'.flatMap encB)) (hn:m.nx≤mo.nx) (hl:l'.length=n') :
  ∃ lam',Ow T wj wq m0 m2 lam' a1 n1 c1 a2 n2 c2 a' n' c' ss js ls qs { σ with backs:=l' }∧(∀ b,lam b≠.no→lam' b=lam b)∧(∀ b,b < m.nx→lam' b=lam b):=by
 have h2:=h.then k
 have hbl:∀ b∈blk a',m.nx≤b∧b < m2.nx:=fun b hb=>⟨Nat.le_trans hn (ho.blk b hb),ho.lt k.wf b hb⟩
 have hnx:=h.keep.nx
 have key:∀ lam',(∀ b∈blk a',lam' b = .bk)→Ow T wj wq m0 m2 lam' a1 n1 c1 a2 n2 c2 a3 n3 c3 ss js ls qs σ→Ow T wj wq m0 m2 lam' a1 n1 c1 a2 n2 c2 a' n' c' ss js ls qs { σ with backs:=l' }:=fun lam' hl' h'=>
  { h' with s3:=(ho.csl true).old (Nat.le_trans hnx hn),s3l:=hl',s3n:=hl }
 cases a' with
 | none=>exact ⟨lam,key lam (fun b hb=>by cases hb) h2,fun b _=>rfl,fun b _=>rfl⟩
 | some ad=>
  obtain ⟨q1,q2⟩:=hbl ad.block (by simp [blk])
  have hno:lam ad.block = .no:=h.noNew q1
  refine ⟨upF lam ad.block .bk,key _ (fun b hb=>?_) (h2.own hno q2),fun b hb=>?_,fun b hb=>?_⟩
  ·simp [blk] at hb; subst hb; exact upF_self ..
  ·rw [upF_ne]; intro e; subst e; exact hb hno
  ·rw [upF_ne]; intro e; omega
theorem Ow.apartS {cx:Cx} {m':Mem} {S:List Nat} (h:Ow T wj wq m0 m lam a1 n1 c1 a2 n2 c2 a3 n3 c3 ss js ls qs σ) (f:Fr m m' S) (hS:∀ b∈S,lam b = .sv) (hz:sizeT cx T.B=some 2) :
  All2 (RdServ m') ss σ.servs∧(∃ ls,Arr encL 4 m' a2 n2 ls∧All2 (RdLock m') ls σ.sems)∧Arr encB 2 m' a3 n3 σ.backs∧Cut cx m' a3 n3 c3 2:=by
 have hw:=h.keep.wf
 have ne:∀ {b:Nat} {L:Lb},lam b=L→L≠.sv→b∉S:=fun e hn hs=>hn (by rw [← e,hS _ hs])
 have nb:∀ b'∈S,lam b'≠.pr:=fun b' hb'=>by rw [hS b' hb']; simp
 have h3:=h.s3.fr hw f (fun b hb=>ne (h.s3l b hb) (by simp))
 refine ⟨All2.of (by rw [h.s1n,h.s1d]) fun i v x hv hx=>?_,⟨ls,(h.s2.fr hw f (fun b hb=>ne (h.s2l b hb) (by simp))).arr encL_len h.s2n,All2.of (by rw [h.s2n,h.s2d]) fun k v l hv hl=>?_⟩,h3.arr encB_len h.s3n,⟨by rw [h.s3.cap]; exact Nat.le_refl _,?_⟩⟩
 ·obtain ⟨p,q⟩:=h.ds i v x hv hx
  exact ⟨p.id,p.s,p.sec,p.held,p.num,p.ran,js i,((h.jb i v hv).fr hw f nb (fun b' hb'=>by rw [hS b' hb']; simp)).arr encJ_len,q.imp fun _ _ r=>let r:=r.fr hw f nb; ⟨r.num,r.at_,r.done,r.prog⟩⟩
 ·obtain ⟨p,q⟩:=h.dl k v l hv hl
  exact ⟨p.most,p.holder,p.dead,by rw [← q]; exact ((h.qu k v hv).fr hw f nb (fun b' hb'=>by rw [hS b' hb']; simp)).arr encI_len⟩
 ·generalize σ.backs.flatMap encB=L at h3
  cases h3 with
  | nil=>exact .inl rfl
  | empty b cc h1 h2=>exact .inr ⟨b,0,_,rfl,h2,by unfold sameSize; rw [h2]⟩
  | row b n pre l hw h1 h2=>
   obtain ⟨c',h3,_⟩:=id h2
   exact .inr ⟨b,_,_,rfl,h3,h2.sameSize hz⟩
theorem Ow.apartB {m':Mem} {S:List Nat} (h:Ow T wj wq m0 m lam a1 n1 c1 a2 n2 c2 a3 n3 c3 ss js ls qs σ) (f:Fr m m' S) (hS:∀ b∈S,lam b = .bk) :
  (∃ ss,Arr encS 11 m' a1 n1 ss∧All2 (RdServ m') ss σ.servs)∧(∃ ls,Arr encL 4 m' a2 n2 ls∧All2 (RdLock m') ls σ.sems):=by
 have hw:=h.keep.wf
 have ne:∀ {b:Nat} {L:Lb},lam b=L→L≠.bk→b∉S:=fun e hn hs=>hn (by rw [← e,hS _ hs])
 have nb:∀ b'∈S,lam b'≠.pr:=fun b' hb'=>by rw [hS b' hb']; simp
 refine ⟨⟨ss,(h.s1.fr hw f (fun b hb=>ne (h.s1l b hb) (by simp))).arr encS_len h.s1n,All2.of (by rw [h.s1n,h.s1d]) fun i v x hv hx=>?_⟩,⟨ls,(h.s2.fr hw f (fun b hb=>ne (h.s2l b hb) (by simp))).arr encL_len h.s2n,All2.of (by rw [h.s2n,h.s2d]) fun k v l hv hl=>?_⟩⟩
 ·obtain ⟨p,q⟩:=h.ds i v x hv hx
  exact ⟨p.id,p.s,p.sec,p.held,p.num,p.ran,js i,((h.jb i v hv).fr hw f nb (fun b' hb'=>by rw [hS b' hb']; simp)).arr encJ_len,q.imp fun _ _ r=>let r:=r.fr hw f nb; ⟨r.num,r.at_,r.done,r.prog⟩⟩
 ·obtain ⟨p,q⟩:=h.dl k v l hv hl
  exact ⟨p.most,p.holder,p.dead,by rw [← q]; exact ((h.qu k v hv).fr hw f nb (fun b' hb'=>by rw [hS b' hb']; simp)).arr encI_len⟩
end
end
end Go.AX
namespace Go.AX.pm
set_option linter.unusedSimpArgs false
set_option linter.unusedVariables false
set_option linter.unusedSectionVars false
open Go.AX
noncomputable section
structure Act where
 op:Int
 who:Int
 q:Int
 p:Int
 n:Int
 steps:List Step
def tickN:Nat→St→St
 | 0,s=>s
 | k+1,s=>(tick (tickN k s)).1
def act (s:St) (a:Act):St:=
 bif eqI a.op 0 then (add s a.who a.q a.p).1 else
 bif eqI a.op 1 then (drop s a.who).1 else
 bif eqI a.op 2 then (release s a.who a.steps).1 else
 bif eqI a.op 3 || eqI a.op 4 then (ground s a.who (eqI a.op 3)).1 else
 bif eqI a.op 5 then (settle s).1 else tickN (min a.n.toNat 60) s
def acts:St→List Act→St
 | s,[]=>s
 | s,a :: r=>acts (act s a) r
theorem acts_snoc:∀ (l:List Act) (s:St) (a:Act),acts s (l ++ [a])=act (acts s l) a
 | [],_,_=>rfl
 | _ :: r,s,a=>acts_snoc r _ a
theorem tickN_iv {B:Int} {σ : St} (h:Iv B σ):∀ k,Iv B (tickN k σ)∧(tickN k σ).m = σ.m∧(tickN k σ).sems.length = σ.sems.length∧σ.now≤(tickN k σ).now∧(tickN k σ).now≤σ.now+k
 | 0=>⟨h,rfl,rfl,Int.le_refl _,by show σ.now≤_; omega⟩
 | k+1=>by
  obtain ⟨a,b,c,d,e⟩:=tickN_iv h k
  obtain ⟨a',b',c',d',_⟩:=tick_iv a
  refine ⟨a',b'.trans b,c'.trans c,?_,?_⟩
  ·show _≤(tick (tickN k σ)).1.now
   rw [d']; split <;> omega
  ·show (tick (tickN k σ)).1.now≤_
   rw [d']; split <;> omega
theorem settle_now' {B:Int} {σ : St} (h:Iv B σ):(settle σ).1.now = σ.now:=(settle_now h).1
theorem act_iv {B:Int} {σ : St} (h:Iv B σ) (hB:0≤B) (hB2:B < 4611686018427387904) (a:Act):Iv (B+1) (act σ a)∧(act σ a).m = σ.m∧σ.now≤(act σ a).now∧(act σ a).now≤σ.now+60:=by
 unfold act
 cases eqI a.op 0 with
 | true=>
  obtain ⟨x,y,z,_⟩:=add_iv h hB a.who a.q a.p
  exact ⟨x.mono (by omega),y,by show _≤(add σ a.who a.q a.p).1.now; rw [z]; exact Int.le_refl _,by show (add σ a.who a.q a.p).1.now≤_; rw [z]; omega⟩
 | false=>
 cases eqI a.op 1 with
 | true=>
  obtain ⟨x,y,z,_⟩:=drop_iv h a.who
  exact ⟨x.mono (by omega),y,by show _≤(drop σ a.who).1.now; rw [z]; exact Int.le_refl _,by show (drop σ a.who).1.now≤_; rw [z]; omega⟩
 | false=>
 cases eqI a.op 2 with
 | true=>
  obtain ⟨x,y,z,_⟩:=release_iv h hB2 a.who a.steps
  exact ⟨x,y,by show _≤(release σ a.who a.steps).1.now; rw [z]; exact Int.le_refl _,by show (release σ a.who a.steps).1.now≤_; rw [z]; omega⟩
 | false=>
 cases (eqI a.op 3 || eqI a.op 4) with
 | true=>
  obtain ⟨x,y,z,_⟩:=ground_iv h a.who (eqI a.op 3)
  exact ⟨x.mono (by omega),y,by show _≤(ground σ a.who (eqI a.op 3)).1.now; rw [z]; exact Int.le_refl _,by show (ground σ a.who (eqI a.op 3)).1.now≤_; rw [z]; omega⟩
 | false=>
 cases eqI a.op 5 with
 | true=>
  obtain ⟨x,y,z⟩:=settle_iv h
  have w:=settle_now' h
  exact ⟨x.mono (by omega),z,by show _≤(settle σ).1.now; rw [w]; exact Int.le_refl _,by show (settle σ).1.now≤_; rw [w]; omega⟩
 | false=>
  obtain ⟨x,y,_,z,w⟩:=tickN_iv h (min a.n.toNat 60)
  exact ⟨x.mono (by omega),y,z,by
   show (tickN (min a.n.toNat 60) σ).now≤_
   have:min a.n.toNat 60≤60:=Nat.min_le_right _ _
   omega⟩
theorem acts_iv:∀ (l:List Act) {B:Int} {σ : St},Iv B σ→0≤B→B+l.length < 4611686018427387904→Iv (B+l.length) (acts σ l)∧(acts σ l).m = σ.m∧σ.now≤(acts σ l).now∧(acts σ l).now≤σ.now+60*l.length
 | [],B,σ,h,_,_=>⟨h.mono (by simp),rfl,Int.le_refl _,by show σ.now≤_; simp⟩
 | a :: r,B,σ,h,h0,hB=>by
  simp only [List.length_cons] at hB ⊢
  obtain ⟨x,y,z,w⟩:=act_iv h h0 (by omega) a
  obtain ⟨x',y',z',w'⟩:=acts_iv r x (by omega) (by omega)
  refine ⟨x'.mono (by omega),y'.trans y,?_,?_⟩
  ·show _≤(acts (act σ a) r).now; omega
  ·show (acts (act σ a) r).now≤_; omega
end
end Go.AX.pm
namespace Go.AX.pm
set_option linter.unusedSimpArgs false
set_option linter.unusedVariables false
set_option linter.unusedSectionVars false
open Go.AX
theorem quo_up {a p:Int} (ha:0≤a) (hp:1≤p):a < (a.tdiv p+1)*p∧(a.tdiv p+1)*p≤a+p∧0≤a.tdiv p∧a.tdiv p≤a:=by
 have h1:a.tdiv p=a / p:=Int.tdiv_eq_ediv_of_nonneg ha
 rw [h1]
 have h2:=Int.emod_nonneg a (show p≠0 by omega)
 have h3:=Int.emod_lt_of_pos a (show 0 < p by omega)
 have h4:=Int.mul_ediv_add_emod a p
 have h5:(a / p+1)*p=p*(a / p)+p:=by rw [Int.add_mul,Int.mul_comm]; simp
 have h6:0≤a / p:=Int.ediv_nonneg ha (by omega)
 have h7:a / p≤a:=Int.ediv_le_self _ ha
 rw [h5]
 refine ⟨by omega,by omega,h6,h7⟩
theorem tUp_lt {t d p r:Int} (hp:1≤p) (hp2:p≤2147483648) (h:tUp t d p=(r,true)):t < r:=by
 unfold tUp at h
 cases hg:tGood t && (tGood d && tIn p 1 2147483648) with
 | false=>rw [hg] at h; simp at h
 | true=>
  rw [hg,cond_true] at h
  simp only [Bool.and_eq_true] at hg
  have ht:=tGood_iff.1 hg.1
  have hd:=tGood_iff.1 hg.2.1
  cases hl:ltI t d with
  | true=>rw [hl,cond_true] at h; cases h; exact ltI_true.1 hl
  | false=>
   rw [hl,cond_false] at h
   rw [ltI_false] at hl
   obtain ⟨q1,q2,q3,q4⟩:=quo_up (a:=t - d) (p:=p) (by omega) hp
   have e1:subI .i64 t d=t - d:=subI_64 (by omega) (by omega)
   have e2:quoI .i64 (t - d) p=(t - d).tdiv p:=wrapI_64 (by omega) (by omega)
   have e3:addI .i64 ((t - d).tdiv p) 1=(t - d).tdiv p+1:=addI_64 (by omega) (by omega)
   have e4:mulI .i64 ((t - d).tdiv p+1) p=((t - d).tdiv p+1)*p:=mulI_64 (by omega) (by omega)
   have e5:addI .i64 d (((t - d).tdiv p+1)*p)=d+((t - d).tdiv p+1)*p:=addI_64 (by omega) (by omega)
   rw [e1,e2,e3,e4,e5] at h
   unfold tgood at h
   cases hz:tGood (d+((t - d).tdiv p+1)*p) with
   | false=>rw [hz] at h; simp at h
   | true=>
    rw [hz,cond_true] at h
    cases h
    omega
theorem cTurn_twice {s:Srv} {now:Int} (h:CF s):cTurn (cTurn s now).1 now=((cTurn s now).1,false):=by
 cases hb:(cTurn s now).2 with
 | false=>
  rw [cTurn_no hb]
  exact Prod.ext (cTurn_no hb) hb
 | true=>
  unfold cTurn at hb
  rw [cGood_iff.2 h] at hb
  cases h1:(!true || (eqI s.mode 0 || ltI now s.due)) with
  | true=>rw [h1] at hb; simp at hb
  | false=>
   rw [h1,cond_false] at hb
   cases h2:(tUp now s.due s.p).2 with
   | false=>rw [h2] at hb; simp at hb
   | true=>
    have e:(cTurn s now).1=cReady { s with bud:=s.q,due:=(tUp now s.due s.p).1 }:=by
     unfold cTurn
     rw [cGood_iff.2 h,h1,cond_false,h2]; rfl
    have hlt:=tUp_lt (r:=(tUp now s.due s.p).1) h.p1 h.p2 (by rw [← h2])
    rw [e]
    have hd:(cReady { s with bud:=s.q,due:=(tUp now s.due s.p).1 }).due=(tUp now s.due s.p).1:=by
     unfold cReady
     cases eqI s.q 0 <;> rfl
    unfold cTurn
    rw [hd,ltI_true.2 hlt,Bool.or_true,Bool.or_true]; rfl
def Turned (now:Int) (x:Serv):Prop:=turn1 now x=(x,false)
theorem turn1_turned {k:Nat} {now:Int} {x:Serv} (h:GoodV k x):Turned now (turn1 now x).1:=by
 unfold Turned
 unfold turn1
 cases hc:(x.idle || neI x.sec 0) with
 | true=>simp only [cond_true]; rw [hc]; rfl
 | false=>
  simp only [cond_false]
  cases hc2:(({ x with s:=(cTurn x.s now).1 }:Serv).idle || neI x.sec 0) with
  | true=>rfl
  | false=>simp only [cond_false]; rw [cTurn_twice h.s]
theorem Turned.sec {now:Int} {x:Serv} (h:x.sec≠0):Turned now x:=by
 unfold Turned turn1
 rw [neI_true.2 h,Bool.or_true]; rfl
theorem Turned.wait {k:Nat} {now:Int} {x:Serv} (hg:GoodV k x) (h:Turned now x) (hm:x.s.mode=1):Turned now { x with s:=(cWait x.s).1 }:=by
 have hw:=cWait_good hg.s hm
 unfold Turned turn1 at h ⊢
 cases hs:neI x.sec 0 with
 | true=>simp [Bool.or_true]
 | false=>
  have hi:x.idle=false:=by unfold Serv.idle; rw [hm]; exact eqI_false.2 (by decide)
  rw [hi,hs] at h
  simp only [Bool.or_false,cond_false,Prod.mk.injEq] at h
  have hi2:({ x with s:=(cWait x.s).1 }:Serv).idle=false:=by
   unfold Serv.idle cWait
   rw [cGood_iff.2 hg.s]
   cases hne:neI x.s.mode 1 with
   | true=>exact absurd hm (neI_true.1 hne)
   | false=>exact eqI_false.2 (show (2:Int)≠0 by decide)
  rw [hi2]
  simp only [Bool.or_false,cond_false]
  have e:(cTurn (cWait x.s).1 now).2=false:=by
   have ew:(cWait x.s).1 = { x.s with mode:=2 }:=by
    unfold cWait
    rw [cGood_iff.2 hg.s]
    cases hne:neI x.s.mode 1 with
    | true=>exact absurd hm (neI_true.1 hne)
    | false=>rfl
   have h2:=h.2
   have hg2:cGood (cWait x.s).1=true:=cGood_iff.2 hw.1
   rw [ew] at hg2 ⊢
   unfold cTurn at h2 ⊢
   rw [cGood_iff.2 hg.s] at h2
   rw [hg2]
   have em:eqI x.s.mode 0=false:=eqI_false.2 (by omega)
   rw [em] at h2
   simp only [Bool.not_true,Bool.false_or] at h2 ⊢
   rw [show eqI (2:Int) 0=false from eqI_false.2 (by decide)]
   simp only [Bool.false_or]
   cases hl:ltI now x.s.due with
   | true=>rfl
   | false=>
    rw [hl] at h2
    simp only [cond_false] at h2 ⊢
    cases ht:(tUp now x.s.due x.s.p).2 with
    | false=>rfl
    | true=>rw [ht] at h2; simp at h2
  rw [cTurn_no e,e]
theorem turned_all {σ : St} (h:∀ x∈σ.servs,Turned σ.now x):turnS σ = σ∧turnE σ = []:=by
 have e:σ.servs.map (fun v=>(turn1 σ.now v).1) = σ.servs:=by
  refine (List.map_congr_left fun x hx=>?_).trans (List.map_id _)
  rw [h x hx]; rfl
 refine ⟨?_,?_⟩
 ·unfold turnS; rw [e]
 ·unfold turnE
  rw [List.filterMap_eq_nil_iff]
  intro x hx
  rw [h x hx]; rfl
theorem refuse_turned {B:Int} {σ σ':St} {e:Ev} (h:Iv B σ) (ht:∀ x∈σ.servs,Turned σ.now x) (hr:refuse σ = some (σ',e)):(∀ x∈σ'.servs,Turned σ'.now x)∧σ'.now = σ.now:=by
 obtain ⟨p,hp,v,k,h1,h2,_,rfl,_⟩:=refuseIn_some hr
 obtain ⟨x,a,b,c,_⟩:=asks_mem h hp
 rw [h1] at a; cases a
 have hx:=List.mem_of_getElem? h1
 exact ⟨all_set ht ((ht _ hx).wait (h.serv _ hx) c),rfl⟩
theorem refuses_turned {B:Int}:∀ (n:Nat) {σ : St},Iv B σ→(∀ x∈σ.servs,Turned σ.now x)→(∀ x∈(refuses n σ).1.servs,Turned (refuses n σ).1.now x)
 | 0,_,_,ht=>ht
 | n+1,σ,h,ht=>by
  unfold refuses
  cases hr:refuse σ with
  | none=>exact ht
  | some p=>
   obtain ⟨σ',e⟩:=p
   obtain ⟨a,b⟩:=refuse_turned h ht hr
   exact refuses_turned n (refuse_iv h hr).1 a
theorem settle_turned {B:Int} {σ : St} (h:Iv B σ):∀ x∈(settle σ).1.servs,Turned (settle σ).1.now x:=by
 have h1:=turnS_iv h
 have t1:∀ x∈(turnS σ).servs,Turned (turnS σ).now x:=by
  intro x hx
  obtain ⟨y,hy,rfl⟩:=List.mem_map.1 hx
  exact turn1_turned (h.serv y hy)
 have t2:=refuses_turned (σ.servs.length+1) h1 t1
 have h2:=refuses_iv (σ.servs.length+1) h1
 show ∀ x∈(grants (refuses (σ.servs.length+1) (turnS σ)).1 (asks (refuses (σ.servs.length+1) (turnS σ)).1)).1.servs,Turned (grants (refuses (σ.servs.length+1) (turnS σ)).1 (asks (refuses (σ.servs.length+1) (turnS σ)).1)).1.now x
 generalize (refuses (σ.servs.length+1) (turnS σ)).1 = τ at t2 h2
 obtain ⟨_,g2,_⟩:=grants_iv h2
 have ha:=granted_all h2 g2
 intro x' hx'
 obtain ⟨i,hi⟩:=List.getElem?_of_mem hx'
 obtain ⟨x,hx,hR⟩:=ha.get' hi
 rcases hR.2.2.2.2.2 with e | ⟨_,_,h5,_⟩
 ·subst e
  rw [g2.now]
  exact t2 _ (List.mem_of_getElem? hx)
 ·exact Turned.sec h5
theorem asks_none {B:Int} {σ : St} (h:Iv B σ) (ha:Asked σ):asks σ = []:=by
 rw [List.eq_nil_iff_forall_not_mem]
 intro p hp
 obtain ⟨x,a,b,_,c,d,e,_⟩:=asks_mem h hp
 have:=ha x (List.mem_of_getElem? a) b c
 omega
theorem settle_still {B:Int} {σ : St} (h:Iv B σ) (ha:Asked σ) (ht:∀ x∈σ.servs,Turned σ.now x):settle σ = (σ,[]):=by
 obtain ⟨e1,e2⟩:=turned_all ht
 have e3:=asks_none h ha
 have e4:refuses (σ.servs.length+1) σ = (σ,[]):=by
  unfold refuses refuse
  rw [e3]; rfl
 unfold settle
 simp only [e1,e2,e4,e3]
 rfl
theorem settle_settle {B:Int} {σ : St} (h:Iv B σ):settle (settle σ).1=((settle σ).1,[]):=
 settle_still (settle_iv h).1 (settle_iv h).2.1 (settle_turned h)
theorem tick_settle {B:Int} {σ : St} (h:Iv B σ) (hn:σ.now < 4611686018427387904):(tick σ).1=(tick (settle σ).1).1∧(tick σ).2.1=(settle σ).2 ++ (tick (settle σ).1).2.1∧(tick σ).2.2=0∧(tick (settle σ).1).2.2=0:=by
 have hn2:(settle σ).1.now < 4611686018427387904:=by rw [(settle_now h).1]; exact hn
 rw [tick_eq hn,tick_eq hn2]
 simp only [settle_settle h]
 exact ⟨trivial,by simp,trivial,trivial⟩
end Go.AX.pm
