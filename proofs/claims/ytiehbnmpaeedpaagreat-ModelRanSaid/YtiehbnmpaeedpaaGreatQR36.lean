import Derived.Test.YtiehbnmpaeedpaaGreatQR33
import Derived.Test.YtiehbnmpaeedpaaGreatQR35
namespace Go.AX
set_option linter.unusedSimpArgs false
set_option linter.unusedVariables false
set_option linter.unusedSectionVars false
open Go
noncomputable section
section
variable {T:Tys} {wj wq:Nat→Kd} {m0 m m2 mo:Mem} {lam:Nat→Lb} {a1 a2 a3:Option Addr} {n1 c1 n2 c2 n3 c3:Nat} {ss:List SV} {js:Nat→List JV} {ls:List LV} {qs:Nat→List Int} {σ : pm.St}
theorem Ow.atB (h:Ow T wj wq m0 m lam a1 n1 c1 a2 n2 c2 a3 n3 c3 ss js ls qs σ) {i:Nat} {x:pm.Back} (hx:σ.backs[i]? = some x) :
  ∃ b o,a3=some ⟨b,o,none⟩∧lam b = .bk∧∀ k u,(encB x)[k]? = some u→rd m b (o+Int.toNat (i:Int)*2+k)=some u:=by
 obtain ⟨b,o,e,hc⟩:=(h.s3.arr encB_len h.s3n).2 i x hx
 exact ⟨b,o,e,h.s3l b (by rw [e]; simp [blk]),fun k u hu=>by rw [Int.toNat_natCast]; exact hc k u hu⟩
theorem Ow.setB (h:Ow T wj wq m0 m lam a1 n1 c1 a2 n2 c2 a3 n3 c3 ss js ls qs σ) {b o i k:Nat} {x x':pm.Back} {vs:List Value} (hx:σ.backs[i]? = some x) (hab:a3=some ⟨b,o,none⟩) (hk:k+vs.length≤2) (he:over (encB x) k vs=encB x') :
  okW m b (o+Int.toNat (i:Int)*2+k) vs.length∧Ow T wj wq m0 (wr m b (o+Int.toNat (i:Int)*2+k) vs) lam a1 n1 c1 a2 n2 c2 a3 n3 c3 ss js ls qs { σ with backs:=σ.backs.set i x' }:=by
 have hw:=h.keep.wf
 obtain ⟨b',o',e,hok,hc⟩:=h.s3.set encB_len (by omega) h.s3n hx hk he (by have:=h.keep.fl; have:=h.fl0; omega)
 rw [hab] at e; cases e
 refine ⟨hok,?_⟩
 have hlb:lam b = .bk:=h.s3l b (by rw [hab]; simp [blk])
 have hnb:m0.nx≤b:=h.new b (by rw [hlb]; simp)
 have f:Fr m (wr m b (o+Int.toNat (i:Int)*2+k) vs) [b]:=(Fr.refl m _).wr (.inl (by simp))
 have ne:∀ {b':Nat} {L:Lb},lam b'=L→L≠.bk→b'∉[b]:=fun e hn hs=>hn (by rw [← e,List.mem_singleton.1 hs,hlb])
 have nb:∀ b'∈[b],lam b'≠.pr:=fun b' hb'=>by rw [List.mem_singleton.1 hb',hlb]; simp
 refine { h with keep:=h.keep.wr hnb,lab:=fun b hb=>by simpa using h.lab b hb,s3:=hc,s3n:=by show (σ.backs.set i x').length=n3; rw [List.length_set]; exact h.s3n,s1:=h.s1.fr hw f (fun b hb=>ne (h.s1l b hb) (by simp)),s2:=h.s2.fr hw f (fun b hb=>ne (h.s2l b hb) (by simp)),jb:=fun k u hu=>?_,qu:=fun k u hu=>?_,ds:=fun j u x hu hx=>?_ }
 ·exact (h.jb k u hu).fr hw f nb (fun b' hb'=>by rw [List.mem_singleton.1 hb',hlb]; simp)
 ·exact (h.qu k u hu).fr hw f nb (fun b' hb'=>by rw [List.mem_singleton.1 hb',hlb]; simp)
 ·obtain ⟨p,q⟩:=h.ds j u x hu hx
  exact ⟨p,q.imp fun _ _ r=>r.fr hw f nb⟩
theorem Ow.newB (h:Ow T wj wq m0 m lam a1 n1 c1 a2 n2 c2 a3 n3 c3 ss js ls qs σ) {a':Option Addr} {n' c':Nat} {l':List pm.Back} (k:Keep m m2) (ho:OwnSl mo m2 T.B a' n' c' (l'.flatMap encB)) (hn:m.nx≤mo.nx) (hl:l'.length=n') :
  ∃ lam',Ow T wj wq m0 m2 lam' a1 n1 c1 a2 n2 c2 a' n' c' ss js ls qs { σ with backs:=l' }∧(∀ b,lam b≠.no→lam' b=lam b)∧(∀ b,b < m.nx→lam' b=lam b):=by
 have h2:=h.then k
 have hbl:∀ b∈blk a',m.nx≤b∧b < m2.nx:=fun b hb=>⟨Nat.le_trans hn (ho.blk b hb),ho.lt k.wf b hb⟩
 have hnx:=h.keep.nx
 have key:∀ lam',(∀ b∈blk a',lam' b = .bk)→Ow T wj wq m0 m2 lam' a1 n1 c1 a2 n2 c2 a3 n3 c3 ss js ls qs σ→Ow T wj wq m0 m2 lam' a1 n1 c1 a2 n2 c2 a' n' c' ss js ls qs { σ with backs:=l' }:=fun lam' hl' h'=>
  { h' with s3:=(ho.csl true).old (Nat.le_trans hnx hn),s3l:=hl',s3n:=hl }
 cases a' with
 | none=>exact ⟨lam,key lam (fun b hb=>by cases hb) h2,fun b _=>rfl,fun b _=>rfl⟩
 | some ad=>
  obtain ⟨q1,q2⟩:=hbl ad.block (by simp [blk])
  have hno:lam ad.block = .no:=h.noNew q1
  refine ⟨upF lam ad.block .bk,key _ (fun b hb=>?_) (h2.own hno q2),fun b hb=>?_,fun b hb=>?_⟩
  ·simp [blk] at hb; subst hb; exact upF_self ..
  ·rw [upF_ne]; intro e; subst e; exact hb hno
  ·rw [upF_ne]; intro e; omega
theorem Ow.apartS {cx:Cx} {m':Mem} {S:List Nat} (h:Ow T wj wq m0 m lam a1 n1 c1 a2 n2 c2 a3 n3 c3 ss js ls qs σ) (f:Fr m m' S) (hS:∀ b∈S,lam b = .sv) (hz:sizeT cx T.B=some 2) :
  All2 (RdServ m') ss σ.servs∧(∃ ls,Arr encL 4 m' a2 n2 ls∧All2 (RdLock m') ls σ.sems)∧Arr encB 2 m' a3 n3 σ.backs∧Cut cx m' a3 n3 c3 2:=by
 have hw:=h.keep.wf
 have ne:∀ {b:Nat} {L:Lb},lam b=L→L≠.sv→b∉S:=fun e hn hs=>hn (by rw [← e,hS _ hs])
 have nb:∀ b'∈S,lam b'≠.pr:=fun b' hb'=>by rw [hS b' hb']; simp
 have h3:=h.s3.fr hw f (fun b hb=>ne (h.s3l b hb) (by simp))
 refine ⟨All2.of (by rw [h.s1n,h.s1d]) fun i v x hv hx=>?_,⟨ls,(h.s2.fr hw f (fun b hb=>ne (h.s2l b hb) (by simp))).arr encL_len h.s2n,All2.of (by rw [h.s2n,h.s2d]) fun k v l hv hl=>?_⟩,h3.arr encB_len h.s3n,⟨by rw [h.s3.cap]; exact Nat.le_refl _,?_⟩⟩
 ·obtain ⟨p,q⟩:=h.ds i v x hv hx
  exact ⟨p.id,p.s,p.sec,p.held,p.num,p.ran,js i,((h.jb i v hv).fr hw f nb (fun b' hb'=>by rw [hS b' hb']; simp)).arr encJ_len,q.imp fun _ _ r=>let r:=r.fr hw f nb; ⟨r.num,r.at_,r.done,r.prog⟩⟩
 ·obtain ⟨p,q⟩:=h.dl k v l hv hl
  exact ⟨p.most,p.holder,p.dead,by rw [← q]; exact ((h.qu k v hv).fr hw f nb (fun b' hb'=>by rw [hS b' hb']; simp)).arr encI_len⟩
 ·generalize σ.backs.flatMap encB=L at h3
  cases h3 with
  | nil=>exact .inl rfl
  | empty b cc h1 h2=>exact .inr ⟨b,0,_,rfl,h2,by unfold sameSize; rw [h2]⟩
  | row b n pre l hw h1 h2=>
   obtain ⟨c',h3,_⟩:=id h2
   exact .inr ⟨b,_,_,rfl,h3,h2.sameSize hz⟩
theorem Ow.apartB {m':Mem} {S:List Nat} (h:Ow T wj wq m0 m lam a1 n1 c1 a2 n2 c2 a3 n3 c3 ss js ls qs σ) (f:Fr m m' S) (hS:∀ b∈S,lam b = .bk) :
  (∃ ss,Arr encS 11 m' a1 n1 ss∧All2 (RdServ m') ss σ.servs)∧(∃ ls,Arr encL 4 m' a2 n2 ls∧All2 (RdLock m') ls σ.sems):=by
 have hw:=h.keep.wf
 have ne:∀ {b:Nat} {L:Lb},lam b=L→L≠.bk→b∉S:=fun e hn hs=>hn (by rw [← e,hS _ hs])
 have nb:∀ b'∈S,lam b'≠.pr:=fun b' hb'=>by rw [hS b' hb']; simp
 refine ⟨⟨ss,(h.s1.fr hw f (fun b hb=>ne (h.s1l b hb) (by simp))).arr encS_len h.s1n,All2.of (by rw [h.s1n,h.s1d]) fun i v x hv hx=>?_⟩,⟨ls,(h.s2.fr hw f (fun b hb=>ne (h.s2l b hb) (by simp))).arr encL_len h.s2n,All2.of (by rw [h.s2n,h.s2d]) fun k v l hv hl=>?_⟩⟩
 ·obtain ⟨p,q⟩:=h.ds i v x hv hx
  exact ⟨p.id,p.s,p.sec,p.held,p.num,p.ran,js i,((h.jb i v hv).fr hw f nb (fun b' hb'=>by rw [hS b' hb']; simp)).arr encJ_len,q.imp fun _ _ r=>let r:=r.fr hw f nb; ⟨r.num,r.at_,r.done,r.prog⟩⟩
 ·obtain ⟨p,q⟩:=h.dl k v l hv hl
  exact ⟨p.most,p.holder,p.dead,by rw [← q]; exact ((h.qu k v hv).fr hw f nb (fun b' hb'=>by rw [hS b' hb']; simp)).arr encI_len⟩
end
end
end Go.AX
namespace Go.AX.pm
set_option linter.unusedSimpArgs false
set_option linter.unusedVariables false
set_option linter.unusedSectionVars false
open Go.AX
noncomputable section
structure Act where
 op:Int
 who:Int
 q:Int
 p:Int
 n:Int
 steps:List Step
def tickN:Nat→St→St
 | 0,s=>s
 | k+1,s=>(tick (tickN k s)).1
def act (s:St) (a:Act):St:=
 bif eqI a.op 0 then (add s a.who a.q a.p).1 else
 bif eqI a.op 1 then (drop s a.who).1 else
 bif eqI a.op 2 then (release s a.who a.steps).1 else
 bif eqI a.op 3 || eqI a.op 4 then (ground s a.who (eqI a.op 3)).1 else
 bif eqI a.op 5 then (settle s).1 else tickN (min a.n.toNat 60) s
def acts:St→List Act→St
 | s,[]=>s
 | s,a :: r=>acts (act s a) r
theorem acts_snoc:∀ (l:List Act) (s:St) (a:Act),acts s (l ++ [a])=act (acts s l) a
 | [],_,_=>rfl
 | _ :: r,s,a=>acts_snoc r _ a
theorem tickN_iv {B:Int} {σ : St} (h:Iv B σ):∀ k,Iv B (tickN k σ)∧(tickN k σ).m = σ.m∧(tickN k σ).sems.length = σ.sems.length∧σ.now≤(tickN k σ).now∧(tickN k σ).now≤σ.now+k
 | 0=>⟨h,rfl,rfl,Int.le_refl _,by show σ.now≤_; omega⟩
 | k+1=>by
  obtain ⟨a,b,c,d,e⟩:=tickN_iv h k
  obtain ⟨a',b',c',d',_⟩:=tick_iv a
  refine ⟨a',b'.trans b,c'.trans c,?_,?_⟩
  ·show _≤(tick (tickN k σ)).1.now
   rw [d']; split <;> omega
  ·show (tick (tickN k σ)).1.now≤_
   rw [d']; split <;> omega
theorem settle_now' {B:Int} {σ : St} (h:Iv B σ):(settle σ).1.now = σ.now:=(settle_now h).1
theorem act_iv {B:Int} {σ : St} (h:Iv B σ) (hB:0≤B) (hB2:B < 4611686018427387904) (a:Act):Iv (B+1) (act σ a)∧(act σ a).m = σ.m∧σ.now≤(act σ a).now∧(act σ a).now≤σ.now+60:=by
 unfold act
 cases eqI a.op 0 with
 | true=>
  obtain ⟨x,y,z,_⟩:=add_iv h hB a.who a.q a.p
  exact ⟨x.mono (by omega),y,by show _≤(add σ a.who a.q a.p).1.now; rw [z]; exact Int.le_refl _,by show (add σ a.who a.q a.p).1.now≤_; rw [z]; omega⟩
 | false=>
 cases eqI a.op 1 with
 | true=>
  obtain ⟨x,y,z,_⟩:=drop_iv h a.who
  exact ⟨x.mono (by omega),y,by show _≤(drop σ a.who).1.now; rw [z]; exact Int.le_refl _,by show (drop σ a.who).1.now≤_; rw [z]; omega⟩
 | false=>
 cases eqI a.op 2 with
 | true=>
  obtain ⟨x,y,z,_⟩:=release_iv h hB2 a.who a.steps
  exact ⟨x,y,by show _≤(release σ a.who a.steps).1.now; rw [z]; exact Int.le_refl _,by show (release σ a.who a.steps).1.now≤_; rw [z]; omega⟩
 | false=>
 cases (eqI a.op 3 || eqI a.op 4) with
 | true=>
  obtain ⟨x,y,z,_⟩:=ground_iv h a.who (eqI a.op 3)
  exact ⟨x.mono (by omega),y,by show _≤(ground σ a.who (eqI a.op 3)).1.now; rw [z]; exact Int.le_refl _,by show (ground σ a.who (eqI a.op 3)).1.now≤_; rw [z]; omega⟩
 | false=>
 cases eqI a.op 5 with
 | true=>
  obtain ⟨x,y,z⟩:=settle_iv h
  have w:=settle_now' h
  exact ⟨x.mono (by omega),z,by show _≤(settle σ).1.now; rw [w]; exact Int.le_refl _,by show (settle σ).1.now≤_; rw [w]; omega⟩
 | false=>
  obtain ⟨x,y,_,z,w⟩:=tickN_iv h (min a.n.toNat 60)
  exact ⟨x.mono (by omega),y,z,by
   show (tickN (min a.n.toNat 60) σ).now≤_
   have:min a.n.toNat 60≤60:=Nat.min_le_right _ _
   omega⟩
theorem acts_iv:∀ (l:List Act) {B:Int} {σ : St},Iv B σ→0≤B→B+l.length < 4611686018427387904→Iv (B+l.length) (acts σ l)∧(acts σ l).m = σ.m∧σ.now≤(acts σ l).now∧(acts σ l).now≤σ.now+60*l.length
 | [],B,σ,h,_,_=>⟨h.mono (by simp),rfl,Int.le_refl _,by show σ.now≤_; simp⟩
 | a :: r,B,σ,h,h0,hB=>by
  simp only [List.length_cons] at hB ⊢
  obtain ⟨x,y,z,w⟩:=act_iv h h0 (by omega) a
  obtain ⟨x',y',z',w'⟩:=acts_iv r x (by omega) (by omega)
  refine ⟨x'.mono (by omega),y'.trans y,?_,?_⟩
  ·show _≤(acts (act σ a) r).now; omega
  ·show (acts (act σ a) r).now≤_; omega
end
end Go.AX.pm
namespace Go.AX.pm
set_option linter.unusedSimpArgs false
set_option linter.unusedVariables false
set_option linter.unusedSectionVars false
open Go.AX
noncomputable section
def rans (s:St):List Int:=s.servs.map (·.ran)
theorem rans_set {l:List Serv} {i:Nat} {v v':Serv} (h:l[i]? = some v) (e:v'.ran=v.ran):(l.set i v').map (·.ran)=l.map (·.ran):=by
 rw [map_set',e]
 exact set_get_self (by rw [List.getElem?_map,h]; rfl)
theorem free_rans (s:St) (q:Int) (t:Bool):rans (free s q t).1=rans s:=by
 unfold free
 split
 ·rfl
 ·split
  ·rfl
  ·split
   ·rfl
   ·rename_i v hv
    exact rans_set hv rfl
theorem end1_rans (s:St) (i:Nat):rans (end1 s i).1=rans s:=by
 unfold end1
 split
 ·rfl
 ·rename_i v hv
  split
  ·rfl
  ·rename_i j r hj
   simp only
   have key:∀ a:St×List Ev,rans a.1=rans s→rans (match a.1.servs[i]? with
    | none=>a
    | some w=>bif eqI (jNext j).1.at_ (lenI j.prog.length) then ({ a.1 with servs:=a.1.servs.set i { w with jobs:=r } },a.2 ++ [event s 2 w.id j.num])
     else ({ a.1 with servs:=a.1.servs.set i { w with jobs:=(jNext j).1 :: r } },a.2)).1=rans s:=by
    intro a ha
    split
    ·exact ha
    ·rename_i w hw
     cases eqI (jNext j).1.at_ (lenI j.prog.length) with
     | true=>exact (rans_set (v':={ w with jobs:=r }) hw rfl).trans ha
     | false=>exact (rans_set (v':={ w with jobs:=(jNext j).1 :: r }) hw rfl).trans ha
   cases eqI j.done (jStep j).1.2 with
   | true=>
    simp only [cond_true]
    refine key _ ?_
    cases eqI v.sec 2 with
    | true=>exact (free_rans _ _ _).trans (rans_set hv rfl)
    | false=>rfl
   | false=>
    simp only [cond_false]
    cases (eqI v.sec 2 && (match s.sems[((jStep j).1.1 - 1).toNat]? with | some l=>eqI v.held l.most | none=>false)) with
    | true=>exact (free_rans _ _ _).trans (rans_set hv rfl)
    | false=>rfl
theorem end2_rans (s:St) (i:Nat):rans (end2 s i).1=rans s:=by
 unfold end2
 split
 ·rfl
 ·rename_i v hv
  split
  ·exact rans_set hv rfl
  ·rfl
theorem ends_rans:∀ (l:List Nat) (s:St),rans (ends s l).1=rans s
 | [],_=>rfl
 | i :: r,s=>(ends_rans r _).trans ((end2_rans _ _).trans (end1_rans s i))
def cnt (L:List Nat) (k:Nat):Nat:=(L.filter fun p=>decide (p < k)).length
theorem cnt_succ (k:Nat):∀ {L:List Nat},L.Nodup→cnt L (k+1)=cnt L k+(if k∈L then 1 else 0)
 | [],_=>rfl
 | p :: r,h=>by
  rw [List.nodup_cons] at h
  have ih:=cnt_succ k h.2
  unfold cnt at ih ⊢
  rw [List.filter_cons,List.filter_cons]
  by_cases hp:p=k
  ·subst hp
   rw [if_neg h.1] at ih
   simp [ih]
  ·have hm:(k∈p :: r)↔k∈r:=by simp [Ne.symm hp]
   by_cases hlt:p < k
   ·simp only [hm,show decide (p < k+1)=true by simp; omega,show decide (p < k)=true by simpa using hlt,if_true,List.length_cons,ih]; omega
   ·simp only [hm,show decide (p < k+1)=false by simp; omega,show decide (p < k)=false by simpa using hlt,if_false]; simp; exact ih
theorem cnt_zero (L:List Nat):cnt L 0=0:=by
 unfold cnt
 rw [List.filter_eq_nil_iff.2 (fun p _=>by simp)]; rfl
theorem cnt_all {L:List Nat} {k:Nat} (h:∀ p∈L,p < k):cnt L k=L.length:=by
 unfold cnt
 rw [List.filter_eq_self.2 fun p hp=>by simpa using h p hp]
theorem tick_ran {B:Int} {σ : St} (h:Iv B σ) (hn:σ.now < 4611686018427387904):let τ:=(settle σ).1; let L:=(runners τ).map (at_ τ.servs);
  (∀ (k:Nat) x y,(tick σ).1.servs[k]? = some x→τ.servs[k]? = some y→x.ran=y.ran+(if k∈L then 1 else 0))∧L.Nodup∧(∀ p∈L,p < τ.servs.length)∧(tick σ).1.backs=turned τ.backs (backers τ).length∧(tick σ).1.servs.length = τ.servs.length:=by
 intro τ L
 rw [tick_eq hn]
 simp only
 obtain ⟨s1,s2,s3⟩:=settle_iv h
 obtain ⟨s4,s5,s6,s7⟩:=settle_now h
 have hL:RunPl τ L:=places_ok s1 s2
 obtain ⟨u1,u2⟩:=ran_iv s1 (by rw [s4]; exact hn) hL (backers τ).length
 obtain ⟨v1,v2,v3,v4,v5,v6⟩:=ends_iv (L:=L) u1 hL.1 (fun p hp=>runs_jobs hL p hp)
 obtain ⟨e1,e2,e3,e4,e5,e6⟩:=runs_eq L τ hL.1
 have hr:=ends_rans L { runs τ L with backs:=turned (runs τ L).backs (backers τ).length,now:=addI .i64 (runs τ L).now 1 }
 refine ⟨fun k x y hx hy=>?_,hL.1,fun p hp=>?_,?_,?_⟩
 ·have hx':(rans (ends { runs τ L with backs:=turned (runs τ L).backs (backers τ).length,now:=addI .i64 (runs τ L).now 1 } L).1)[k]? = some x.ran:=by
   unfold rans; rw [List.getElem?_map,hx]; rfl
  rw [hr] at hx'
  have hx2:((runs τ L).servs.map (·.ran))[k]? = some x.ran:=hx'
  rw [List.getElem?_map,e6,hy] at hx2
  have hb:=s1.ran y (List.mem_of_getElem? hy)
  rw [s4] at hb
  by_cases hk:k∈L
  ·rw [if_pos hk] at hx2 ⊢
   simp only [Option.map_some,Option.some.injEq] at hx2
   rw [← hx2,run1_eq]
   exact addI_64 (by omega) (by omega)
  ·rw [if_neg hk] at hx2 ⊢
   simp only [Option.map_some,Option.some.injEq] at hx2
   omega
 ·obtain ⟨x,hx,_⟩:=hL.2 p hp
  exact (List.getElem?_eq_some_iff.1 hx).1
 ·refine v4.trans ?_
  show turned (runs τ L).backs _=_
  rw [e4]
 ·have:=congrArg List.length v6
  simp only [List.length_map] at this
  exact this.trans e5
def sumB:List Back→Int
 | []=>0
 | b :: r=>b.ran+sumB r
theorem sumB_app:∀ l k:List Back,sumB (l ++ k)=sumB l+sumB k
 | [],_=>by simp [sumB]
 | b :: r,k=>by simp only [List.cons_append,sumB,sumB_app r k]; omega
theorem sumB_up {R:Int} (hR:R≤4611686018427387904):∀ l:List Back,(∀ b∈l,0≤b.ran∧b.ran≤R)→sumB (l.map fun b=>{ b with ran:=addI .i64 b.ran 1 })=sumB l+l.length
 | [],_=>rfl
 | b :: r,h=>by
  have hb:=h b (List.mem_cons_self ..)
  simp only [List.map_cons,sumB,sumB_up hR r (fun c hc=>h c (List.mem_cons_of_mem _ hc)),List.length_cons]
  rw [addI_64 (by omega) (by omega)]
  simp only [Int.natCast_add,Int.natCast_one]; omega
theorem sumB_turned {R:Int} (hR:R≤4611686018427387904) {l:List Back} {n:Nat} (hn:n≤l.length) (h:∀ b∈l,0≤b.ran∧b.ran≤R):sumB (turned l n)=sumB l+n:=by
 unfold turned
 rw [sumB_app,sumB_up hR _ (fun b hb=>h b (List.mem_of_mem_take hb)),List.length_take,Nat.min_eq_left hn]
 have:=sumB_app (l.take n) (l.drop n)
 rw [List.take_append_drop] at this
 omega
theorem sumB_bnd {R:Int}:∀ {l:List Back},(∀ b∈l,0≤b.ran∧b.ran≤R)→0≤sumB l∧sumB l≤R*l.length
 | [],_=>by simp [sumB]
 | b :: r,h=>by
  have hb:=h b (List.mem_cons_self ..)
  have ih:=sumB_bnd (l:=r) (fun c hc=>h c (List.mem_cons_of_mem _ hc))
  simp only [sumB,List.length_cons,Int.natCast_add,Int.natCast_one,Int.mul_add,Int.mul_one]
  omega
theorem sumB_succ {l:List Back} {k:Nat} {b:Back} (h:l[k]? = some b):sumB (l.take (k+1))=sumB (l.take k)+b.ran:=by
 rw [List.take_add_one,h,sumB_app]
 simp [sumB]
theorem backers_len {σ : St} (h:((runners σ).length:Int)≤σ.m) (hm:σ.m≤64) (hb:σ.backs.length≤1000):((backers σ).length:Int)=min (σ.m - (runners σ).length) σ.backs.length:=by
 unfold backers
 rw [List.length_map,List.length_take]
 have e:subI .i64 σ.m (lenI (runners σ).length) = σ.m - (runners σ).length:=subI_64 (by unfold lenI; omega) (by unfold lenI; omega)
 rw [e]
 have:mnI (σ.m - (runners σ).length) (lenI σ.backs.length)=min (σ.m - (runners σ).length) σ.backs.length:=by
  unfold mnI lenI
  split <;> omega
 rw [this]
 omega
end
end Go.AX.pm
