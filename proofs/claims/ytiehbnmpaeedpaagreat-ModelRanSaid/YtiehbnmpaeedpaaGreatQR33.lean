import Derived.Test.YtiehbnmpaeedpaaGreatQR32
namespace Go.AX
set_option linter.unusedSimpArgs false
set_option linter.unusedVariables false
set_option linter.unusedSectionVars false
open Go
noncomputable section
section
variable {T:Tys} {wj wq:Nat→Kd} {m0 m m':Mem} {lam:Nat→Lb} {a1 a2 a3:Option Addr} {n1 c1 n2 c2 n3 c3:Nat} {ss:List SV} {js:Nat→List JV} {ls:List LV} {qs:Nat→List Int} {σ : pm.St}
theorem Ow.noNew (h:Ow T wj wq m0 m lam a1 n1 c1 a2 n2 c2 a3 n3 c3 ss js ls qs σ) {b:Nat} (hb:m.nx≤b):lam b = .no:=by
 cases hl:lam b with
 | no=>rfl
 | _=>have:=h.lab b (by rw [hl]; simp); omega
theorem CSl.old {m00:Mem} {e:TypeId} {w:Bool} {a:Option Addr} {n c:Nat} {l:List Value} (h:CSl m0 m e w a n c l) (hn:m00.nx≤m0.nx):CSl m00 m e w a n c l:=by
 cases h with
 | nil=>exact .nil
 | empty b cc h hg=>exact .empty b cc (Nat.le_trans hn h) hg
 | row b n pre l hw h hr=>exact .row b n pre l hw (Nat.le_trans hn h) hr
theorem Held.old {m00:Mem} {α : Type} {enc:α→List Value} {s:Nat} {e:Nat} {L:Lb} {κ : Kd} {a:Option Addr} {n c:Nat} {l:List α} (h:Held enc s m0 m lam e L κ a n c l) (hn:m00.nx≤m0.nx):Held enc s m00 m lam e L κ a n c l:=by
 cases κ with
 | rd=>exact h
 | own w=>exact ⟨h.1.old hn,h.2⟩
theorem Ow.old0 {m00:Mem} (h:Ow T wj wq m0 m lam a1 n1 c1 a2 n2 c2 a3 n3 c3 ss js ls qs σ) (hw:Wf m00) (k:Keep m00 m0):Ow T wj wq m00 m lam a1 n1 c1 a2 n2 c2 a3 n3 c3 ss js ls qs σ:=
 { h with keep:=k.trans h.keep,fl0:=hw.1,new:=fun b hb=>Nat.le_trans k.nx (h.new b hb),s1:=h.s1.old k.nx,s2:=h.s2.old k.nx,s3:=h.s3.old k.nx,jb:=fun i v hv=>(h.jb i v hv).old k.nx,qu:=fun i v hv=>(h.qu i v hv).old k.nx }
theorem Ow.pushQ (h:Ow T wj wq m0 m lam a1 n1 c1 a2 n2 c2 a3 n3 c3 ss js ls qs σ) {j b o nb:Nat} {u:LV} {l:pm.Lock} {x:Int} (hu:ls[j]? = some u) (hl:σ.sems[j]? = some l) (hab:a2=some ⟨b,o,none⟩) (hw':Wf m') (f:Fr m m' (blk u.qa)) (hκ : wq j = .own true) (hnb:m.nx≤nb) (hnb2:nb < m'.nx) (hR:Row m' nb ((qs j ++ [x]).flatMap encI) T.I true) :
  okW m' b (o+Int.toNat (j:Int)*4+2) 1∧Ow T wj wq m0 (wr m' b (o+Int.toNat (j:Int)*4+2) [.slice (some ⟨nb,0,none⟩) (u.qn+1) (u.qn+1)]) (upF lam nb (.qu j)) a1 n1 c1 a2 n2 c2 a3 n3 c3 ss js (ls.set j { u with qa:=some ⟨nb,0,none⟩,qn:=u.qn+1,qc:=u.qn+1 }) (upF qs j (qs j ++ [x])) { σ with sems:=σ.sems.set j { l with queue:=l.queue ++ [x] } }:=by
 have hw:=h.keep.wf
 have hHj:=h.qu j u hu
 rw [hκ] at hHj
 obtain ⟨p1,p2,p3⟩:=hHj
 have hlb:lam b = .lk:=h.s2l b (by rw [hab]; simp [blk])
 have hS0:∀ b'∈blk u.qa,lam b' = .qu j:=p2
 have hnbq:b∉blk u.qa:=fun e=>by have:=hS0 b e; rw [hlb] at this; cases this
 have hblt:b < m.nx:=h.lab b (by rw [hlb]; simp)
 have hnb0:b≠nb:=by omega
 have s2':CSl m0 m' T.L true a2 n2 c2 (ls.flatMap encL):=h.s2.fr hw f (fun b' hb' hs=>by have h1:=h.s2l b' hb'; have h2:=hS0 b' hs; rw [h1] at h2; cases h2)
 obtain ⟨b',o',e,hok,hc⟩:=s2'.set encL_len (by omega) h.s2n (v':={ u with qa:=some ⟨nb,0,none⟩,qn:=u.qn+1,qc:=u.qn+1 }) (k:=2) (vs:=[.slice (some ⟨nb,0,none⟩) (u.qn+1) (u.qn+1)]) hu (by simp) rfl (by have:=h.keep.fl; have:=h.fl0; have:=f.fl; omega)
 rw [hab] at e; cases e
 refine ⟨hok,?_⟩
 have f2:Fr m (wr m' b (o+Int.toNat (j:Int)*4+2) [.slice (some ⟨nb,0,none⟩) (u.qn+1) (u.qn+1)]) (b :: blk u.qa):=(f.mono (S':=b :: blk u.qa) (fun b' hb'=>.inl (List.mem_cons_of_mem _ hb'))).wr (.inl (List.mem_cons_self ..))
 have hlab2:∀ b'∈b :: blk u.qa,lam b' = .lk∨lam b' = .qu j:=fun b' hb'=>by
  rcases List.mem_cons.1 hb' with e | hb'
  ·subst e; exact .inl hlb
  ·exact .inr (hS0 b' hb')
 have hno:lam nb = .no:=h.noNew hnb
 have ne:∀ {b':Nat} {L:Lb},lam b'=L→L≠.lk→L≠.qu j→b'∉b :: blk u.qa:=fun e h1 h2 hs=>by
  rcases hlab2 _ hs with h | h
  ·exact h1 (by rw [← e,h])
  ·exact h2 (by rw [← e,h])
 have nb':∀ b'∈b :: blk u.qa,lam b'≠.pr:=fun b' hb'=>by rcases hlab2 b' hb' with h | h <;> rw [h] <;> simp
 have up:∀ {b':Nat} {L:Lb},lam b'=L→L≠.no→upF lam nb (.qu j) b'=L:=fun {b' L} e hn=>by
  rw [upF_ne (fun h=>by subst h; rw [hno] at e; exact hn e.symm)]; exact e
 have hkeep:Keep m0 (wr m' b (o+Int.toNat (j:Int)*4+2) [.slice (some ⟨nb,0,none⟩) (u.qn+1) (u.qn+1)]):=
  Keep.of_fr h.keep hw'.wr f2 (fun b' hb'=>h.new b' (nb' b' hb'))
 have hj:=(List.getElem?_eq_some_iff.1 hu).1
 refine { keep:=hkeep,fl0:=h.fl0,lab:=fun b' hb'=>?_,new:=fun b' hb'=>?_,s1:=h.s1.fr hw f2 (fun b hb=>ne (h.s1l b hb) (by simp) (by simp)),s1l:=fun b hb=>up (h.s1l b hb) (by simp),s1n:=h.s1n,s1d:=h.s1d,s2:=hc,s2l:=fun b hb=>up (h.s2l b hb) (by simp),s2n:=by rw [List.length_set]; exact h.s2n,s2d:=by simpa using h.s2d,s3:=h.s3.fr hw f2 (fun b hb=>ne (h.s3l b hb) (by simp) (by simp)),s3l:=fun b hb=>up (h.s3l b hb) (by simp),s3n:=h.s3n,jb:=fun i v hv=>?_,qu:=fun k v hv=>?_,ds:=fun i v y hv hy=>?_,dl:=fun k v y hv hy=>?_ }
 ·by_cases e:b'=nb
  ·subst e; simpa using hnb2
  ·rw [upF_ne e] at hb'
   have:=h.lab b' hb'
   have:=f.nx
   simp; omega
 ·by_cases e:b'=nb
  ·subst e
   have:=h.keep.nx
   omega
  ·rw [upF_ne e] at hb'; exact h.new b' hb'
 ·exact ((h.jb i v hv).fr hw f2 nb' (fun b' hb'=>by rcases hlab2 b' hb' with h | h <;> rw [h] <;> simp)).relab (fun b e=>up e (by simp)) (fun b e=>up e (by simp))
 ·by_cases e:k=j
  ·subst e
   rw [List.getElem?_set] at hv
   simp [hj] at hv
   subst hv
   rw [upF_self,hκ]
   refine ⟨CSl.row nb (u.qn+1) [] _ (fun _=>⟨rfl,by omega⟩) (by have:=h.keep.nx; omega) ?_,fun b' hb'=>?_,?_⟩
   ·exact hR.congr (wr_get (fun e=>hnb0 e.symm))
   ·simp [blk] at hb'; subst hb'; exact upF_self ..
   ·rw [List.length_append,p3]; rfl
  ·rw [List.getElem?_set,if_neg (fun h=>e h.symm)] at hv
   rw [upF_ne e]
   exact ((h.qu k v hv).fr hw f2 nb' (fun b' hb'=>by
    rcases hlab2 b' hb' with h | h
    ·rw [h]; simp
    ·rw [h]; simp; exact fun h=>e h.symm)).relab (fun b e=>up e (by simp)) (fun b e=>up e (by simp))
 ·obtain ⟨p,q⟩:=h.ds i v y hv hy
  exact ⟨p,q.imp fun _ _ r=>⟨r.num,r.at_,r.done,r.prog.fr' hw f2 (fun hl b' hb' hs=>nb' b' hs (r.lab hl b' hb')),fun hl b hb=>up (r.lab hl b hb) (by simp)⟩⟩
 ·by_cases e:k=j
  ·subst e
   rw [List.getElem?_set] at hv
   simp [hj] at hv
   subst hv
   have hj2:k < σ.sems.length:=(List.getElem?_eq_some_iff.1 hl).1
   have hy:(σ.sems.set k { l with queue:=l.queue ++ [x] })[k]? = some y:=hy
   rw [List.getElem?_set,if_pos rfl,if_pos hj2] at hy
   cases hy
   obtain ⟨q1,q2⟩:=h.dl k u l hu hl
   rw [upF_self]
   exact ⟨⟨q1.most,q1.holder,q1.dead⟩,by rw [q2]⟩
  ·rw [List.getElem?_set,if_neg (fun h=>e h.symm)] at hv
   have hy:(σ.sems.set j { l with queue:=l.queue ++ [x] })[k]? = some y:=hy
   rw [List.getElem?_set,if_neg (fun h=>e h.symm)] at hy
   rw [upF_ne e]
   exact h.dl k v y hv hy
theorem Ow.pushJ (h:Ow T wj wq m0 m lam a1 n1 c1 a2 n2 c2 a3 n3 c3 ss js ls qs σ) {i b o nb:Nat} {u:SV} {y:pm.Serv} {jv:JV} {jx:pm.Job} (hu:ss[i]? = some u) (hy:σ.servs[i]? = some y) (hab:a1=some ⟨b,o,none⟩) (hw':Wf m') (f:Fr m m' (blk u.ja)) (hκ : wj i = .own true) (hnb:m.nx≤nb) (hnb2:nb < m'.nx) (hR:Row m' nb ((js i ++ [jv]).flatMap encJ) T.J true) (hd:DpJob m lam jv jx) :
  okW m' b (o+Int.toNat (i:Int)*11+6) 1∧Ow T wj wq m0 (wr m' b (o+Int.toNat (i:Int)*11+6) [.slice (some ⟨nb,0,none⟩) (u.jn+1) (u.jn+1)]) (upF lam nb (.jb i)) a1 n1 c1 a2 n2 c2 a3 n3 c3 (ss.set i { u with ja:=some ⟨nb,0,none⟩,jn:=u.jn+1,jc:=u.jn+1 }) (upF js i (js i ++ [jv])) ls qs { σ with servs:=σ.servs.set i { y with jobs:=y.jobs ++ [jx] } }:=by
 have hw:=h.keep.wf
 have hHj:=h.jb i u hu
 rw [hκ] at hHj
 obtain ⟨p1,p2,p3⟩:=hHj
 have hlb:lam b = .sv:=h.s1l b (by rw [hab]; simp [blk])
 have hS0:∀ b'∈blk u.ja,lam b' = .jb i:=p2
 have hblt:b < m.nx:=h.lab b (by rw [hlb]; simp)
 have hnb0:b≠nb:=by omega
 have s1':CSl m0 m' T.S true a1 n1 c1 (ss.flatMap encS):=h.s1.fr hw f (fun b' hb' hs=>by have h1:=h.s1l b' hb'; have h2:=hS0 b' hs; rw [h1] at h2; cases h2)
 obtain ⟨b',o',e,hok,hc⟩:=s1'.set encS_len (by omega) h.s1n (v':={ u with ja:=some ⟨nb,0,none⟩,jn:=u.jn+1,jc:=u.jn+1 }) (k:=6) (vs:=[.slice (some ⟨nb,0,none⟩) (u.jn+1) (u.jn+1)]) hu (by simp) rfl (by have:=h.keep.fl; have:=h.fl0; have:=f.fl; omega)
 rw [hab] at e; cases e
 refine ⟨hok,?_⟩
 have f2:Fr m (wr m' b (o+Int.toNat (i:Int)*11+6) [.slice (some ⟨nb,0,none⟩) (u.jn+1) (u.jn+1)]) (b :: blk u.ja):=(f.mono (S':=b :: blk u.ja) (fun b' hb'=>.inl (List.mem_cons_of_mem _ hb'))).wr (.inl (List.mem_cons_self ..))
 have hlab2:∀ b'∈b :: blk u.ja,lam b' = .sv∨lam b' = .jb i:=fun b' hb'=>by
  rcases List.mem_cons.1 hb' with e | hb'
  ·subst e; exact .inl hlb
  ·exact .inr (hS0 b' hb')
 have hno:lam nb = .no:=h.noNew hnb
 have ne:∀ {b':Nat} {L:Lb},lam b'=L→L≠.sv→L≠.jb i→b'∉b :: blk u.ja:=fun e h1 h2 hs=>by
  rcases hlab2 _ hs with h | h
  ·exact h1 (by rw [← e,h])
  ·exact h2 (by rw [← e,h])
 have nb':∀ b'∈b :: blk u.ja,lam b'≠.pr:=fun b' hb'=>by rcases hlab2 b' hb' with h | h <;> rw [h] <;> simp
 have up:∀ {b':Nat} {L:Lb},lam b'=L→L≠.no→upF lam nb (.jb i) b'=L:=fun {b' L} e hn=>by
  rw [upF_ne (fun h=>by subst h; rw [hno] at e; exact hn e.symm)]; exact e
 have hkeep:Keep m0 (wr m' b (o+Int.toNat (i:Int)*11+6) [.slice (some ⟨nb,0,none⟩) (u.jn+1) (u.jn+1)]):=
  Keep.of_fr h.keep hw'.wr f2 (fun b' hb'=>h.new b' (nb' b' hb'))
 have hj:=(List.getElem?_eq_some_iff.1 hu).1
 have dp:∀ {v:JV} {j:pm.Job},DpJob m lam v j→DpJob (wr m' b (o+Int.toNat (i:Int)*11+6) [.slice (some ⟨nb,0,none⟩) (u.jn+1) (u.jn+1)]) (upF lam nb (.jb i)) v j:=fun r=>
  ⟨r.num,r.at_,r.done,r.prog.fr' hw f2 (fun hl b' hb' hs=>nb' b' hs (r.lab hl b' hb')),fun hl b hb=>up (r.lab hl b hb) (by simp)⟩
 refine { keep:=hkeep,fl0:=h.fl0,lab:=fun b' hb'=>?_,new:=fun b' hb'=>?_,s2:=h.s2.fr hw f2 (fun b hb=>ne (h.s2l b hb) (by simp) (by simp)),s2l:=fun b hb=>up (h.s2l b hb) (by simp),s2n:=h.s2n,s2d:=h.s2d,s1:=hc,s1l:=fun b hb=>up (h.s1l b hb) (by simp),s1n:=by rw [List.length_set]; exact h.s1n,s1d:=by simpa using h.s1d,s3:=h.s3.fr hw f2 (fun b hb=>ne (h.s3l b hb) (by simp) (by simp)),s3l:=fun b hb=>up (h.s3l b hb) (by simp),s3n:=h.s3n,jb:=fun k v hv=>?_,qu:=fun k v hv=>?_,ds:=fun k v z hv hz=>?_,dl:=h.dl }
 ·by_cases e:b'=nb
  ·subst e; simpa using hnb2
  ·rw [upF_ne e] at hb'
   have:=h.lab b' hb'
   have:=f.nx
   simp; omega
 ·by_cases e:b'=nb
  ·subst e
   have:=h.keep.nx
   omega
  ·rw [upF_ne e] at hb'; exact h.new b' hb'
 ·by_cases e:k=i
  ·subst e
   rw [List.getElem?_set] at hv
   simp [hj] at hv
   subst hv
   rw [upF_self,hκ]
   refine ⟨CSl.row nb (u.jn+1) [] _ (fun _=>⟨rfl,by omega⟩) (by have:=h.keep.nx; omega) ?_,fun b' hb'=>?_,?_⟩
   ·exact hR.congr (wr_get (fun e=>hnb0 e.symm))
   ·simp [blk] at hb'; subst hb'; exact upF_self ..
   ·rw [List.length_append,p3]; rfl
  ·rw [List.getElem?_set,if_neg (fun h=>e h.symm)] at hv
   rw [upF_ne e]
   exact ((h.jb k v hv).fr hw f2 nb' (fun b' hb'=>by
    rcases hlab2 b' hb' with h | h
    ·rw [h]; simp
    ·rw [h]; simp; exact fun h=>e h.symm)).relab (fun b e=>up e (by simp)) (fun b e=>up e (by simp))
 ·exact ((h.qu k v hv).fr hw f2 nb' (fun b' hb'=>by rcases hlab2 b' hb' with h | h <;> rw [h] <;> simp)).relab (fun b e=>up e (by simp)) (fun b e=>up e (by simp))
 ·by_cases e:k=i
  ·subst e
   rw [List.getElem?_set] at hv
   simp [hj] at hv
   subst hv
   have hj2:k < σ.servs.length:=(List.getElem?_eq_some_iff.1 hy).1
   have hz:(σ.servs.set k { y with jobs:=y.jobs ++ [jx] })[k]? = some z:=hz
   rw [List.getElem?_set,if_pos rfl,if_pos hj2] at hz
   cases hz
   obtain ⟨q1,q2⟩:=h.ds k u y hu hy
   rw [upF_self]
   exact ⟨⟨q1.id,q1.s,q1.sec,q1.held,q1.num,q1.ran⟩,(q2.imp fun _ _ r=>dp r).append (.cons (dp hd) .nil)⟩
  ·rw [List.getElem?_set,if_neg (fun h=>e h.symm)] at hv
   have hz:(σ.servs.set i { y with jobs:=y.jobs ++ [jx] })[k]? = some z:=hz
   rw [List.getElem?_set,if_neg (fun h=>e h.symm)] at hz
   rw [upF_ne e]
   obtain ⟨q1,q2⟩:=h.ds k v z hv hz
   exact ⟨q1,q2.imp fun _ _ r=>dp r⟩
end
end
end Go.AX
namespace Go.AX.pm
set_option linter.unusedSimpArgs false
set_option linter.unusedVariables false
set_option linter.unusedSectionVars false
open Go.AX
theorem len_eq (n:Nat):lenI n=(n:Int):=rfl
structure CF (s:Srv):Prop where
 p1:1≤s.p
 p2:s.p≤2147483648
 q1:1≤s.q
 q2:s.q≤s.p
 b1:0≤s.bud
 b2:s.bud≤s.q
 d1:0≤s.due
 d2:s.due≤4611686018427387904
 m1:0≤s.mode
 m2:s.mode≤2
 r:s.mode≠1∨0 < s.bud
theorem cGood_iff {s:Srv}:cGood s=true↔CF s:=by
 unfold cGood pair tGood
 simp only [Bool.and_eq_true,leI_true,Bool.or_eq_true,neI_true,ltI_true]
 constructor
 ·rintro ⟨⟨a,b,c,d⟩,e,f,⟨g,h⟩,i,j,k⟩
  exact ⟨a,b,c,d,e,f,g,h,i,j,k⟩
 ·rintro ⟨a,b,c,d,e,f,g,h,i,j,k⟩
  exact ⟨⟨a,b,c,d⟩,e,f,⟨g,h⟩,i,j,k⟩
theorem pair_iff {q p:Int}:pair q p=true↔1≤p∧p≤2147483648∧1≤q∧q≤p:=by
 unfold pair; simp only [Bool.and_eq_true,leI_true]
theorem tGood_iff {t:Int}:tGood t=true↔0≤t∧t≤4611686018427387904:=by
 unfold tGood; simp only [Bool.and_eq_true,leI_true]
theorem cNew_good {q p:Int} (h:(cNew q p).2=0):CF (cNew q p).1∧(cNew q p).1.mode=0∧cNew q p=(⟨q,p,0,0,0⟩,0):=by
 unfold cNew at h ⊢
 cases hp:pair q p with
 | false=>rw [hp] at h; simp at h
 | true=>
  obtain ⟨a,b,c,d⟩:=pair_iff.1 hp
  exact ⟨⟨a,b,c,d,by simp,by simp; omega,by simp,by simp,by simp,by simp,.inl (by simp)⟩,rfl,rfl⟩
theorem cReady_good {s:Srv} (p1:1≤s.p) (p2:s.p≤2147483648) (q1:1≤s.q) (q2:s.q≤s.p) (b1:0≤s.bud) (b2:s.bud≤s.q) (d1:0≤s.due) (d2:s.due≤4611686018427387904):CF (cReady s)∧(cReady s).mode≠0:=by
 unfold cReady
 cases hb:eqI s.bud 0 with
 | true=>exact ⟨⟨p1,p2,q1,q2,b1,b2,d1,d2,by simp,by simp,.inl (by simp)⟩,by simp⟩
 | false=>
  have:=eqI_false.1 hb
  exact ⟨⟨p1,p2,q1,q2,b1,b2,d1,d2,by simp,by simp,.inr (by simp; omega)⟩,by simp⟩
theorem cUse_good {s:Srv} (h:CF s):CF (cUse s 1).1∧(s.mode≠0→(cUse s 1).1.mode≠0):=by
 unfold cUse
 rw [cGood_iff.2 h]
 cases h1:(!true || (ltI 1 1 || ltI s.bud 1)) with
 | true=>exact ⟨h,fun h=>h⟩
 | false=>
  cases h2:neI s.mode 1 with
  | true=>exact ⟨h,fun h=>h⟩
  | false=>
   have hb:=h.b2
   simp only [Bool.not_true,Bool.false_or,Bool.or_eq_false_iff,ltI_false] at h1
   have e:subI .i64 s.bud 1=s.bud - 1:=subI_64 (by omega) (by have:=h.q2; have:=h.p2; omega)
   have:=cReady_good (s:={ s with bud:=subI .i64 s.bud 1 }) h.p1 h.p2 h.q1 h.q2 (by rw [e]; simp; omega) (by rw [e]; simp; omega) h.d1 h.d2
   exact ⟨this.1,fun _=>this.2⟩
theorem cIdle_good {s:Srv} (h:CF s):CF (cIdle s).1∧(cIdle s).1.mode=0:=by
 unfold cIdle
 rw [cGood_iff.2 h]
 cases h2:eqI s.mode 0 with
 | true=>exact ⟨h,eqI_true.1 h2⟩
 | false=>exact ⟨⟨h.p1,h.p2,h.q1,h.q2,h.b1,h.b2,h.d1,h.d2,by simp,by simp,.inl (by simp)⟩,rfl⟩
theorem cWait_good {s:Srv} (h:CF s) (hm:s.mode=1):CF (cWait s).1∧(cWait s).1 = { s with mode:=2 }:=by
 unfold cWait
 rw [cGood_iff.2 h]
 cases h2:neI s.mode 1 with
 | true=>exact absurd hm (neI_true.1 h2)
 | false=>exact ⟨⟨h.p1,h.p2,h.q1,h.q2,h.b1,h.b2,h.d1,h.d2,by simp,by simp,.inl (by simp)⟩,rfl⟩
theorem tUp_good {t d p r:Int} (h:tUp t d p=(r,true)):0≤r∧r≤4611686018427387904:=by
 unfold tUp at h
 cases hg:tGood t && (tGood d && tIn p 1 2147483648) with
 | false=>rw [hg] at h; simp at h
 | true=>
  rw [hg,cond_true] at h
  simp only [Bool.and_eq_true] at hg
  have hd:=tGood_iff.1 hg.2.1
  cases hl:ltI t d with
  | true=>rw [hl,cond_true] at h; cases h; exact hd
  | false=>
   rw [hl,cond_false] at h
   unfold tgood at h
   cases hz:tGood (addI .i64 d (mulI .i64 (addI .i64 (quoI .i64 (subI .i64 t d) p) 1) p)) with
   | false=>rw [hz] at h; simp at h
   | true=>
    rw [hz,cond_true] at h
    cases h
    exact tGood_iff.1 hz
theorem cTurn_good {s:Srv} {now:Int} (h:CF s):CF (cTurn s now).1∧(s.mode≠0→(cTurn s now).1.mode≠0)∧(s.mode=0→(cTurn s now).1=s):=by
 unfold cTurn
 rw [cGood_iff.2 h]
 cases h1:(!true || (eqI s.mode 0 || ltI now s.due)) with
 | true=>exact ⟨h,fun h=>h,fun _=>rfl⟩
 | false=>
  simp only [Bool.not_true,Bool.false_or,Bool.or_eq_false_iff,eqI_false] at h1
  cases h2:(tUp now s.due s.p).2 with
  | false=>exact ⟨h,fun h=>h,fun _=>rfl⟩
  | true=>
   have hd:=tUp_good (r:=(tUp now s.due s.p).1) (by rw [← h2])
   have:=cReady_good (s:={ s with bud:=s.q,due:=(tUp now s.due s.p).1 }) h.p1 h.p2 h.q1 h.q2 (by have:=h.q1; simp; omega) (by simp) hd.1 hd.2
   exact ⟨this.1,fun _=>this.2,fun h0=>absurd h0 h1.1⟩
theorem cTurn_no {s:Srv} {now:Int} (h:(cTurn s now).2=false):(cTurn s now).1=s:=by
 unfold cTurn at h ⊢
 cases h1:(!cGood s || (eqI s.mode 0 || ltI now s.due)) with
 | true=>rfl
 | false=>
  rw [h1,cond_false] at h
  cases h2:(tUp now s.due s.p).2 with
  | false=>rfl
  | true=>rw [h2] at h; simp at h
theorem cWake_good {s:Srv} {now:Int} (h:CF s) (hn:0≤now) (hn2:now≤4611686018427387904) (hz:(cWake s now).2=0):CF (cWake s now).1∧(cWake s now).1.mode≠0:=by
 have q1:=h.q1
 have q2:=h.q2
 have p2:=h.p2
 have b1:=h.b1
 have b2:=h.b2
 have d2:=h.d2
 unfold cWake at hz ⊢
 rw [cGood_iff.2 h,tGood_iff.2 ⟨hn,hn2⟩] at hz ⊢
 simp only [Bool.not_true,Bool.or_self,cond_false] at hz ⊢
 cases h1:neI s.mode 0 with
 | true=>rw [h1] at hz; simp at hz
 | false=>
  rw [h1] at hz
  simp only [cond_false] at hz ⊢
  cases h2:leI s.due now with
  | true=>
   rw [h2] at hz
   simp only [cond_true] at hz ⊢
   cases h3:(tAdd now s.p).2 with
   | false=>rw [h3] at hz; simp at hz
   | true=>
    simp only [cond_true]
    have hd:0≤(tAdd now s.p).1∧(tAdd now s.p).1≤4611686018427387904:=by
     unfold tAdd at h3 ⊢
     cases h4:tGood now && tGood s.p with
     | false=>rw [h4] at h3; simp at h3
     | true=>
      rw [h4,cond_true] at h3
      rw [cond_true]
      unfold tgood at h3 ⊢
      cases h5:tGood (addI .i64 now s.p) with
      | false=>rw [h5] at h3; simp at h3
      | true=>exact tGood_iff.1 h5
    exact cReady_good (s:={ s with bud:=s.q,due:=(tAdd now s.p).1 }) h.p1 h.p2 h.q1 h.q2 (by simp; omega) (by simp) hd.1 hd.2
  | false=>
   rw [h2] at hz
   simp only [cond_false] at hz ⊢
   cases h3:ltI (mulI .i64 (mnI (subI .i64 s.due now) s.p) s.q) (mulI .i64 s.bud s.p) with
   | false=>exact cReady_good h.p1 h.p2 h.q1 h.q2 h.b1 h.b2 h.d1 h.d2
   | true=>
    have hlt:=leI_false.1 h2
    have e1:subI .i64 s.due now=s.due - now:=subI_64 (by omega) (by omega)
    have hx:0≤mnI (subI .i64 s.due now) s.p∧mnI (subI .i64 s.due now) s.p≤s.p:=by
     rw [e1]
     unfold mnI
     split <;> omega
    generalize mnI (subI .i64 s.due now) s.p=x at hx
    have hsh:0≤(tShare x s.q s.p).1∧(tShare x s.q s.p).1≤s.q:=by
     unfold tShare
     cases h4:(tIn x 0 2147483648 && (tIn s.p 1 2147483648 && tIn s.q 0 s.p)) with
     | false=>simp; omega
     | true=>
      simp only [cond_true]
      have hm1:0≤x*s.q:=Int.mul_nonneg hx.1 (by omega)
      have hm2:x*s.q≤s.p*s.q:=Int.mul_le_mul_of_nonneg_right hx.2 (by omega)
      have hm3:s.p*s.q≤2147483648*2147483648:=Int.mul_le_mul p2 (by omega) (by omega) (by omega)
      rw [mulI_64 (by omega) (by omega)]
      have e2:quoI .i64 (x*s.q) s.p=x*s.q / s.p:=by
       unfold quoI
       rw [Int.tdiv_eq_ediv_of_nonneg hm1]
       exact wrapI_64 (by have:=Int.ediv_nonneg hm1 (show 0≤s.p by omega); omega) (by have:=Int.ediv_le_self s.p hm1; omega)
      rw [e2]
      refine ⟨Int.ediv_nonneg hm1 (by omega),?_⟩
      have h5:x*s.q / s.p≤s.p*s.q / s.p:=Int.ediv_le_ediv (by omega) hm2
      rwa [Int.mul_ediv_cancel_left _ (by omega)] at h5
    exact cReady_good (s:={ s with bud:=(tShare x s.q s.p).1 }) h.p1 h.p2 h.q1 h.q2 hsh.1 hsh.2 h.d1 h.d2
theorem pGood_iff {p:List Step}:pGood p=true↔1≤p.length∧p.length≤8∧∀ s∈p,0≤s.1∧s.1≤8∧1≤s.2∧s.2≤2147483648:=by
 unfold pGood
 simp only [Bool.and_eq_true,leI_true,len_eq,Bool.not_eq_true',List.any_eq_false]
 have:∀ s:Step,¬ pOdd s=true↔(0≤s.1∧s.1≤8∧1≤s.2∧s.2≤2147483648):=fun s=>by
  unfold pOdd
  simp only [Bool.not_eq_true,Bool.or_eq_false_iff,ltI_false]
 simp only [this]
 constructor
 ·rintro ⟨a,b,c⟩; exact ⟨by omega,by omega,c⟩
 ·rintro ⟨a,b,c⟩; exact ⟨by omega,by omega,c⟩
structure JF (j:Job):Prop where
 num:1≤j.num
 prog:pGood j.prog=true
 a0:0≤j.at_
 al:j.at_≤j.prog.length
 d0:0≤j.done
 dl:j.at_=j.prog.length→j.done=0
 dn:j.at_≠j.prog.length→j.done≤j.cur.2
theorem jGood_iff {j:Job}:jGood j=true↔JF j:=by
 unfold jGood
 cases he:eqI j.at_ (lenI j.prog.length) with
 | true=>
  have e:=eqI_true.1 he
  simp only [len_eq] at e
  simp only [Bool.and_eq_true,Bool.not_eq_true',ltI_false,cond_true,eqI_true,len_eq]
  constructor
  ·rintro ⟨a,b,c,d,f,g⟩; exact ⟨a,b,c,d,f,fun _=>g,fun h=>absurd e h⟩
  ·rintro ⟨a,b,c,d,f,g,_⟩; exact ⟨a,b,c,d,f,g e⟩
 | false=>
  have e:=eqI_false.1 he
  simp only [len_eq] at e
  simp only [Bool.and_eq_true,Bool.not_eq_true',ltI_false,cond_false,leI_true,len_eq]
  constructor
  ·rintro ⟨a,b,c,d,f,g⟩; exact ⟨a,b,c,d,f,fun h=>absurd h e,fun _=>g⟩
  ·rintro ⟨a,b,c,d,f,_,g⟩; exact ⟨a,b,c,d,f,g e⟩
structure GoodJ (k:Nat) (j:Job):Prop where
 good:JF j
 at_:j.at_ < j.prog.length
 fits:∀ s∈j.prog,s.1≤(k:Int)
theorem JF.step {j:Job} (h:JF j) (ha:j.at_ < j.prog.length):jStep j=(j.cur,true):=by
 unfold jStep
 rw [jGood_iff.2 h]
 have:eqI j.at_ (lenI j.prog.length)=false:=eqI_false.2 (by simp only [len_eq]; omega)
 rw [this]; rfl
theorem JF.cur_mem {j:Job} (h:JF j) (ha:j.at_ < j.prog.length):j.cur∈j.prog:=by
 unfold Job.cur
 have h0:=h.a0
 have:j.at_.toNat < j.prog.length:=by omega
 rw [List.getD_eq_getElem?_getD,List.getElem?_eq_getElem this]
 exact List.getElem_mem this
theorem GoodJ.step {k:Nat} {j:Job} (h:GoodJ k j):jStep j=(j.cur,true):=h.good.step h.at_
theorem GoodJ.mem {k:Nat} {j:Job} (h:GoodJ k j):j.cur∈j.prog:=h.good.cur_mem h.at_
theorem GoodJ.cur {k:Nat} {j:Job} (h:GoodJ k j):0≤j.cur.1∧j.cur.1≤(k:Int)∧1≤j.cur.2∧j.cur.2≤2147483648:=by
 obtain ⟨a,b,c,d⟩:=(pGood_iff.1 h.good.prog).2.2 _ h.mem
 exact ⟨a,h.fits _ h.mem,c,d⟩
theorem GoodJ.done {k:Nat} {j:Job} (h:GoodJ k j):0≤j.done∧j.done≤j.cur.2:=⟨h.good.d0,h.good.dn (by have:=h.at_; omega)⟩
theorem jRun_good {k:Nat} {j:Job} (h:GoodJ k j):GoodJ k (jRun j 1).1∧(jRun j 1).1.prog=j.prog∧(jRun j 1).1.at_=j.at_∧(jRun j 1).1.num=j.num∧(jRun j 1).1.cur=j.cur∧(jRun j 1).1.done=(if j.done < j.cur.2 then j.done+1 else j.done):=by
 obtain ⟨d0,d1⟩:=h.done
 obtain ⟨_,_,c1,c2⟩:=h.cur
 unfold jRun
 rw [h.step]
 simp only [Bool.not_true,cond_false]
 have e1:subI .i64 j.cur.2 j.done=j.cur.2 - j.done:=subI_64 (by omega) (by omega)
 rw [e1]
 have e2:mxI 1 0=1:=by unfold mxI; simp
 rw [e2]
 have e3:addI .i64 j.done (mnI 1 (j.cur.2 - j.done))=if j.done < j.cur.2 then j.done+1 else j.done:=by
  unfold mnI
  split
  ·rename_i h1
   rw [addI_64 (by omega) (by omega)]
   split <;> omega
  ·rename_i h1
   rw [addI_64 (by omega) (by omega)]
   split <;> omega
 rw [e3]
 refine ⟨⟨⟨h.good.num,h.good.prog,h.good.a0,h.good.al,?_,fun e=>?_,fun _=>?_⟩,h.at_,h.fits⟩,?_⟩
 ·show 0≤(if j.done < j.cur.2 then j.done+1 else j.done)
  split <;> omega
 ·have:=h.at_
  have e:j.at_=j.prog.length:=e
  omega
 ·show (if j.done < j.cur.2 then j.done+1 else j.done)≤j.cur.2
  split <;> omega
 ·refine ⟨?_,?_,?_,?_,?_⟩ <;> first | rfl | trivial
theorem jNext_good {k:Nat} {j:Job} (h:GoodJ k j) (hd:j.done=j.cur.2):(jNext j).1 = { j with at_:=j.at_+1,done:=0 }∧(j.at_+1≠j.prog.length→GoodJ k (jNext j).1):=by
 have a0:=h.good.a0
 have al:=h.at_
 obtain ⟨p1,p2,_⟩:=pGood_iff.1 h.good.prog
 have e:(jNext j).1 = { j with at_:=j.at_+1,done:=0 }:=by
  unfold jNext
  rw [h.step]
  have:neI j.done j.cur.2=false:=neI_false.2 hd
  simp only [this,Bool.not_true,Bool.or_self,cond_false]
  rw [addI_64 (by omega) (by omega)]
 refine ⟨e,fun hne=>?_⟩
 rw [e]
 refine ⟨⟨h.good.num,h.good.prog,by simp; omega,by simp; omega,by simp,fun _=>rfl,fun _=>?_⟩,by simp; omega,h.fits⟩
 have hm:(⟨j.num,j.prog,j.at_+1,0⟩:Job).cur∈j.prog:=by
  unfold Job.cur
  have:(j.at_+1).toNat < j.prog.length:=by omega
  rw [List.getD_eq_getElem?_getD,List.getElem?_eq_getElem this]
  exact List.getElem_mem this
 have:=((pGood_iff.1 h.good.prog).2.2 _ hm).2.2.1
 show (0:Int)≤_
 omega
theorem pFits_iff {p:List Step} {k:Nat}:pFits p k=true↔pGood p=true∧∀ s∈p,s.1≤(k:Int):=by
 unfold pFits
 simp only [Bool.and_eq_true,Bool.not_eq_true',List.any_eq_false,Bool.not_eq_true,ltI_false,len_eq]
theorem jNew_good {k:Nat} {p:List Step} {n:Int} (h:pFits p k=true) (hn:1≤n):jNew n p=(⟨n,p,0,0⟩,true)∧GoodJ k ⟨n,p,0,0⟩:=by
 obtain ⟨h1,h2⟩:=pFits_iff.1 h
 obtain ⟨p1,p2,p3⟩:=pGood_iff.1 h1
 refine ⟨?_,⟨hn,h1,Int.le_refl _,by simp,Int.le_refl _,fun _=>rfl,fun _=>?_⟩,by show (0:Int) < p.length; omega,h2⟩
 ·unfold jNew
  rw [h1]
  have:ltI n 1=false:=ltI_false.2 hn
  rw [this]; rfl
 ·show (0:Int)≤(Job.cur ⟨n,p,0,0⟩).2
  have hm:(⟨n,p,0,0⟩:Job).cur∈p:=by
   unfold Job.cur
   have:(0:Int).toNat < p.length:=by simp; omega
   rw [List.getD_eq_getElem?_getD,List.getElem?_eq_getElem this]
   exact List.getElem_mem this
  have:=(p3 _ hm).2.2.1
  omega
end Go.AX.pm
namespace Go.AX.pm
set_option linter.unusedSimpArgs false
set_option linter.unusedVariables false
set_option linter.unusedSectionVars false
open Go.AX
def headSem (x:Serv):Int:=match x.jobs with
 | []=>0
 | j :: _=>j.cur.1
def headDone (x:Serv):Int:=match x.jobs with
 | []=>0
 | j :: _=>j.done
structure GoodV (k:Nat) (x:Serv):Prop where
 id1:1≤x.id
 id2:x.id≤255
 s:CF x.s
 len:x.jobs.length≤8
 jobs:∀ j∈x.jobs,GoodJ k j
 rest:∀ j∈x.jobs.tail,j.at_=0∧j.done=0
 sec:x.sec=0∨(x.sec=1∨x.sec=2)∧1≤headSem x
 done0:x.sec≠2→1≤headSem x→headDone x=0
abbrev Key:=Int×Int×Int
def key (x:Serv):Key:=(x.id,x.sec,if x.sec=0 then 0 else headSem x)
structure LockOk (K:List Key) (q:Nat) (l:Lock):Prop where
 nd:l.queue.Nodup
 wait:∀ id,id∈l.queue↔(id,1,(q:Int)+1)∈K
 hold:∀ id,(id≠0∧l.holder=id)↔(id,2,(q:Int)+1)∈K
 free:l.holder=0→l.queue=[]
structure Iw (B R:Int) (σ : St):Prop where
 m1:1≤σ.m
 m2:σ.m≤64
 now1:0≤σ.now
 now2:σ.now≤4611686018427387904
 rise:Rise σ.servs
 len1:σ.servs.length≤32
 len2:σ.sems.length≤8
 len3:σ.backs.length≤16
 serv:∀ x∈σ.servs,GoodV σ.sems.length x
 num:∀ x∈σ.servs,0≤x.num∧x.num≤B
 ran:∀ x∈σ.servs,0≤x.ran∧x.ran≤R
 most:∀ l∈σ.sems,1≤l.most∧l.most≤1048576
 lock:∀ (q:Nat) l,σ.sems[q]? = some l→LockOk (σ.servs.map key) q l
 back:∀ b∈σ.backs,1≤b.id∧b.id≤255∧0≤b.ran∧b.ran≤R
 bnd:(σ.backs.map (·.id)).Nodup
noncomputable def fixed (σ : St):Nat:=pl.nfix ((ready σ.servs).map Serv.ent)
def Idl (x:Serv):Prop:=x.jobs=[]↔x.s.mode=0
structure Iv (B:Int) (σ : St):Prop extends Iw B σ.now σ where
 idle:∀ x∈σ.servs,Idl x
 fix:(fixed σ : Int)≤σ.m
theorem Iv.mono {B B':Int} {σ : St} (h:Iv B σ) (hb:B≤B'):Iv B' σ:=
 { h with num:=fun x hx=>⟨(h.num x hx).1,by have:=(h.num x hx).2; omega⟩ }
theorem Rise.nd:∀ {l:List Serv},Rise l→(l.map (·.id)).Nodup
 | [],_=>List.nodup_nil
 | x :: r,h=>by
  rw [List.map_cons,List.nodup_cons]
  refine ⟨fun hm=>?_,Rise.nd h.2⟩
  obtain ⟨y,hy,e⟩:=List.mem_map.1 hm
  have:=h.1 y hy
  omega
theorem at_self {l:List Serv} (hr:Rise l) {i:Nat} {x:Serv} (hx:l[i]? = some x):at_ l x.id=i:=
 at_of hr (by have:=(List.getElem?_eq_some_iff.1 hx).1; omega)
  (fun j y hj hy=>Rise.lt hr hj hy hx)
  (fun j y hj hy=>by
   rcases Nat.lt_or_eq_of_le hj with h | h
   ·have:=hr.lt h hx hy; omega
   ·subst h; rw [hx] at hy; cases hy; omega)
theorem at_mem {l:List Serv} (hr:Rise l) {x:Serv} (hx:x∈l):l[at_ l x.id]? = some x:=by
 obtain ⟨i,hi⟩:=List.getElem?_of_mem hx
 rw [at_self hr hi]; exact hi
theorem keys_fst (l:List Serv):(l.map key).map (·.1)=l.map (·.id):=by
 rw [List.map_map]; rfl
theorem mem_set_iff {α : Type} {l:List α} {i:Nat} {a c:α} (hc:l[i]? = some c) (z:α):z∈l.set i a↔z=a∨∃ j,j≠i∧l[j]? = some z:=by
 have hi:=(List.getElem?_eq_some_iff.1 hc).1
 constructor
 ·intro h
  obtain ⟨j,hj⟩:=List.getElem?_of_mem h
  rw [List.getElem?_set] at hj
  by_cases e:i=j
  ·subst e; rw [if_pos rfl,if_pos hi] at hj; cases hj; exact .inl rfl
  ·rw [if_neg e] at hj; exact .inr ⟨j,fun h=>e h.symm,hj⟩
 ·rintro (rfl | ⟨j,hj,hz⟩)
  ·exact List.mem_of_getElem? (i:=i) (by rw [List.getElem?_set,if_pos rfl,if_pos hi])
  ·exact List.mem_of_getElem? (i:=j) (by rw [List.getElem?_set,if_neg (fun h=>hj h.symm)]; exact hz)
theorem nodup_at {α : Type}:∀ {l:List α},l.Nodup→∀ {i j:Nat} {x:α},l[i]? = some x→l[j]? = some x→i=j
 | [],_,i,j,x,h,_=>by cases h
 | y :: r,hn,i,j,x,hi,hj=>by
  rw [List.nodup_cons] at hn
  cases i with
  | zero=>
   cases j with
   | zero=>rfl
   | succ j=>cases hi; exact absurd (List.mem_of_getElem? (by simpa using hj)) hn.1
  | succ i=>
   cases j with
   | zero=>cases hj; exact absurd (List.mem_of_getElem? (by simpa using hi)) hn.1
   | succ j=>have:=nodup_at (x:=x) hn.2 (i:=i) (j:=j) (by simpa using hi) (by simpa using hj); omega
theorem mem_keys {K:List Key} (hn:(K.map (·.1)).Nodup) {i:Nat} {a c:Key} (hc:K[i]? = some c) (ha:a.1=c.1) (z:Key):z∈K.set i a↔z=a∨(z∈K∧z.1≠c.1):=by
 rw [mem_set_iff hc]
 constructor
 ·rintro (h | ⟨j,hj,hz⟩)
  ·exact .inl h
  ·refine .inr ⟨List.mem_of_getElem? hz,fun e=>hj ?_⟩
   exact nodup_at hn (x:=c.1) (by rw [List.getElem?_map,hz]; simp [e]) (by rw [List.getElem?_map,hc]; rfl)
 ·rintro (h | ⟨hz,hne⟩)
  ·exact .inl h
  ·obtain ⟨j,hj⟩:=List.getElem?_of_mem hz
   refine .inr ⟨j,fun e=>?_,hj⟩
   subst e
   rw [hc] at hj; cases hj; exact hne rfl
theorem map_set' {α β : Type} (f:α→β) (l:List α) (i:Nat) (x:α):(l.set i x).map f=(l.map f).set i (f x):=by
 apply List.ext_getElem?
 intro j
 rw [List.getElem?_map,List.getElem?_set,List.getElem?_set,List.getElem?_map]
 by_cases h:i=j
 ·subst h
  rw [if_pos rfl,if_pos rfl,List.length_map]
  split <;> rfl
 ·rw [if_neg h,if_neg h]
theorem all_set {α : Type} {p:α→Prop} {l:List α} {i:Nat} {x:α} (h:∀ y∈l,p y) (hx:p x):∀ y∈l.set i x,p y:=fun y hy=>by
 rcases List.mem_or_eq_of_mem_set hy with h1 | h1
 ·exact h y h1
 ·subst h1; exact hx
theorem set_get_self {α : Type} {l:List α} {i:Nat} {x:α} (h:l[i]? = some x):l.set i x=l:=by
 apply List.ext_getElem?
 intro j
 rw [List.getElem?_set]
 split
 ·rename_i e
  subst e
  rw [h,if_pos (List.getElem?_eq_some_iff.1 h).1]
 ·rfl
theorem Iw.setS {B R:Int} {σ : St} (h:Iw B R σ) {i:Nat} {x x':Serv} (hx:σ.servs[i]? = some x) (hk:key x'=key x) (hg:GoodV σ.sems.length x') (hn:0≤x'.num∧x'.num≤B) (hr:0≤x'.ran∧x'.ran≤R):Iw B R { σ with servs:=σ.servs.set i x' }:=by
 have hid:x'.id=x.id:=congrArg (·.1) hk
 have hids:=ids_set hx hid
 have hkeys:(σ.servs.set i x').map key = σ.servs.map key:=by
  rw [map_set',hk]
  exact set_get_self (by rw [List.getElem?_map,hx]; rfl)
 exact { h with rise:=rise_congr hids.symm h.rise,len1:=by simpa using h.len1,serv:=all_set h.serv hg,num:=all_set h.num hn,ran:=all_set h.ran hr,lock:=fun q l hl=>by rw [hkeys]; exact h.lock q l hl }
theorem Iw.withS {B R:Int} {σ : St} (h:Iw B R σ) {l:List Serv} (hk:l.map key = σ.servs.map key) (hg:∀ x∈l,GoodV σ.sems.length x) (hn:∀ x∈l,0≤x.num∧x.num≤B) (hr:∀ x∈l,0≤x.ran∧x.ran≤R):Iw B R { σ with servs:=l }:=by
 have hids:l.map (·.id) = σ.servs.map (·.id):=by rw [← keys_fst,hk,keys_fst]
 have hl:l.length = σ.servs.length:=by have:=congrArg List.length hids; simpa using this
 exact { h with rise:=rise_congr hids.symm h.rise,len1:=by rw [hl]; exact h.len1,serv:=hg,num:=hn,ran:=hr,lock:=fun q l hl=>by rw [hk]; exact h.lock q l hl }
theorem runner_mem {σ : St} {id:Int} (h:id∈runners σ):∃ x∈σ.servs,x.id=id∧x.s.mode=1:=by
 obtain ⟨e,he,rfl⟩:=pl.mem_pick.1 h
 have:=pl.run_sub he
 obtain ⟨x,hx,rfl⟩:=List.mem_map.1 this
 unfold ready at hx
 rw [List.mem_filter] at hx
 exact ⟨x,hx.1,rfl,eqI_true.1 hx.2⟩
theorem runner_at {B:Int} {σ : St} (h:Iv B σ) {id:Int} (hi:id∈runners σ):∃ x,σ.servs[at_ σ.servs id]? = some x∧x.id=id∧x.s.mode=1∧x.jobs≠[]:=by
 obtain ⟨x,hx,rfl,hm⟩:=runner_mem hi
 exact ⟨x,at_mem h.rise hx,rfl,hm,fun e=>by have:=(h.idle x hx).1 e; omega⟩
theorem runners_nd (σ : St):(runners σ).Nodup:=by
 have:=pl.pick_strict (m:=σ.m) (l:=(ready σ.servs).map Serv.ent)
 exact this.imp fun h=>by omega
theorem asks_mem {B:Int} {σ : St} (h:Iv B σ) {p:Nat×Int} (hp:p∈asks σ):∃ x,σ.servs[p.1]? = some x∧x.id∈runners σ∧x.s.mode=1∧x.sec=0∧headSem x=p.2∧1≤p.2∧p.2≤(σ.sems.length:Int)∧p.1=at_ σ.servs x.id:=by
 unfold asks at hp
 obtain ⟨id,hid,h2⟩:=List.mem_filterMap.1 hp
 obtain ⟨x,hx,rfl,hm,hj⟩:=runner_at h hid
 rw [hx] at h2
 simp only at h2
 have hg:=h.serv x (List.mem_of_getElem? hx)
 cases hjs:x.jobs with
 | nil=>exact absurd hjs hj
 | cons j r=>
  rw [hjs] at h2
  simp only at h2
  have hgj:=hg.jobs j (by rw [hjs]; exact List.mem_cons_self ..)
  rw [hgj.step] at h2
  cases hc:(true && (ltI 0 j.cur.1 && eqI x.sec 0)) with
  | false=>rw [hc] at h2; cases h2
  | true=>
   rw [hc] at h2; cases h2
   simp only [Bool.true_and,Bool.and_eq_true,ltI_true,eqI_true] at hc
   refine ⟨x,hx,hid,hm,hc.2,?_,?_,hgj.cur.2.1,rfl⟩
   ·unfold headSem; rw [hjs]
   ·show 1≤j.cur.1; omega
theorem turn1_eq (now:Int) (v:Serv):(turn1 now v).1=v∨(v.s.mode≠0∧v.sec=0∧(turn1 now v).1 = { v with s:=(cTurn v.s now).1 }):=by
 unfold turn1 Serv.idle
 cases hc:(eqI v.s.mode 0 || neI v.sec 0) with
 | true=>exact .inl rfl
 | false=>
  simp only [Bool.or_eq_false_iff,eqI_false,neI_false] at hc
  exact .inr ⟨hc.1,hc.2,rfl⟩
theorem turn1_key (now:Int) (v:Serv):key (turn1 now v).1=key v:=by
 rcases turn1_eq now v with h | ⟨_,_,h⟩
 ·rw [h]
 ·rw [h]; rfl
theorem turn1_good {k:Nat} {now:Int} {v:Serv} (h:GoodV k v):GoodV k (turn1 now v).1:=by
 rcases turn1_eq now v with e | ⟨hm,hs,e⟩
 ·rw [e]; exact h
 ·rw [e]
  obtain ⟨t1,t2,t3⟩:=cTurn_good (now:=now) h.s
  exact { h with s:=t1 }
theorem turn1_idl {k:Nat} {now:Int} {v:Serv} (hg:GoodV k v) (h:Idl v):Idl (turn1 now v).1:=by
 rcases turn1_eq now v with e | ⟨hm,hs,e⟩
 ·rw [e]; exact h
 ·rw [e]
  obtain ⟨t1,t2,t3⟩:=cTurn_good (now:=now) hg.s
  exact ⟨fun e=>absurd (h.1 e) hm,fun e=>absurd e (t2 hm)⟩
theorem turnS_keys (σ : St):(turnS σ).servs.map key = σ.servs.map key:=by
 show (σ.servs.map fun v=>(turn1 σ.now v).1).map key=_
 rw [List.map_map]
 exact List.map_congr_left fun v _=>turn1_key σ.now v
theorem turn1_same (now:Int) (v:Serv):(turn1 now v).1.id=v.id∧(turn1 now v).1.num=v.num∧(turn1 now v).1.ran=v.ran∧(turn1 now v).1.jobs=v.jobs∧(turn1 now v).1.sec=v.sec∧(turn1 now v).1.held=v.held:=by
 rcases turn1_eq now v with h | ⟨_,_,h⟩ <;> rw [h] <;> exact ⟨rfl,rfl,rfl,rfl,rfl,rfl⟩
theorem turnS_fix (σ : St):fixed (turnS σ)=fixed σ:=by
 unfold fixed pl.nfix ready
 rw [List.countP_map,List.countP_map,List.countP_filter,List.countP_filter]
 show (σ.servs.map fun v=>(turn1 σ.now v).1).countP _=_
 rw [List.countP_map]
 apply List.countP_congr
 intro v _
 rcases turn1_eq σ.now v with h | ⟨_,hs,h⟩
 ·simp only [Function.comp,h]
 ·simp only [Function.comp,h,Serv.ent,hs,neI_false.2 rfl,Bool.false_and]
theorem turnS_iv {B:Int} {σ : St} (h:Iv B σ):Iv B (turnS σ):=by
 have hm:∀ x∈(turnS σ).servs,∃ v∈σ.servs,x=(turn1 σ.now v).1:=fun x hx=>by
  obtain ⟨v,hv,rfl⟩:=List.mem_map.1 hx
  exact ⟨v,hv,rfl⟩
 refine { toIw:=h.toIw.withS (turnS_keys σ) (fun x hx=>?_) (fun x hx=>?_) (fun x hx=>?_),idle:=fun x hx=>?_,fix:=by rw [turnS_fix]; exact h.fix }
 ·obtain ⟨v,hv,rfl⟩:=hm x hx
  exact turn1_good (h.serv v hv)
 ·obtain ⟨v,hv,rfl⟩:=hm x hx
  rw [(turn1_same σ.now v).2.1]; exact h.num v hv
 ·obtain ⟨v,hv,rfl⟩:=hm x hx
  rw [(turn1_same σ.now v).2.2.1]; exact h.ran v hv
 ·obtain ⟨v,hv,rfl⟩:=hm x hx
  exact turn1_idl (h.serv v hv) (h.idle v hv)
noncomputable def readies (σ : St):Nat:=(ready σ.servs).length
theorem refuseIn_some {σ σ':St} {e:Ev}:∀ {l:List (Nat×Int)},refuseIn σ l=some (σ',e)→∃ p∈l,∃ v k,σ.servs[p.1]? = some v∧σ.sems[(p.2 - 1).toNat]? = some k∧gEnough σ.m k.most v.s.bud (subI .i64 v.s.due σ.now)=false∧σ' = { σ with servs:=σ.servs.set p.1 { v with s:=(cWait v.s).1 } }∧e=event σ 8 v.id p.2
 | [],h=>by cases h
 | (i,q) :: r,h=>by
  unfold refuseIn at h
  split at h
  ·rename_i v k hv hk
   cases hg:gEnough σ.m k.most v.s.bud (subI .i64 v.s.due σ.now) with
   | true=>
    rw [hg,cond_true] at h
    obtain ⟨p,hp,h⟩:=refuseIn_some h
    exact ⟨p,List.mem_cons_of_mem _ hp,h⟩
   | false=>
    rw [hg,cond_false] at h
    cases h
    exact ⟨(i,q),List.mem_cons_self ..,v,k,hv,hk,hg,rfl,rfl⟩
  ·cases h
theorem filter_set_len {l:List Serv} {i:Nat} {x x':Serv} (hx:l[i]? = some x) (h1:eqI x.s.mode 1=true) (h2:eqI x'.s.mode 1=false):(ready (l.set i x')).length+1=(ready l).length:=by
 unfold ready
 induction l generalizing i with
 | nil=>cases hx
 | cons y r ih=>
  cases i with
  | zero=>
   cases hx
   rw [List.set_cons_zero,List.filter_cons,List.filter_cons,h1,h2]
   simp
  | succ i=>
   have:=ih (i:=i) (by simpa using hx)
   rw [List.set_cons_succ,List.filter_cons,List.filter_cons]
   cases eqI y.s.mode 1
   ·simpa using this
   ·simp only [if_true,List.length_cons]; omega
theorem fixed_eq (l:List Serv):pl.nfix ((ready l).map Serv.ent)=l.countP fun y=>(eqI y.s.mode 1 && neI y.sec 0):=by
 unfold pl.nfix ready
 rw [List.countP_map,List.countP_filter]
 apply List.countP_congr
 intro x _
 simp [Serv.ent,Function.comp,and_comm]
theorem fixed_set {l:List Serv} {i:Nat} {x x':Serv} (hx:l[i]? = some x) (h:(eqI x'.s.mode 1 && neI x'.sec 0)=true→(eqI x.s.mode 1 && neI x.sec 0)=true):pl.nfix ((ready (l.set i x')).map Serv.ent)≤pl.nfix ((ready l).map Serv.ent):=by
 rw [fixed_eq,fixed_eq]
 induction l generalizing i with
 | nil=>cases hx
 | cons y r ih=>
  cases i with
  | zero=>
   cases hx
   rw [List.set_cons_zero,List.countP_cons,List.countP_cons]
   cases hb:(eqI x'.s.mode 1 && neI x'.sec 0) with
   | false=>simp
   | true=>rw [h hb]; exact Nat.le_refl _
  | succ i=>
   have:=ih (i:=i) (by simpa using hx)
   rw [List.set_cons_succ,List.countP_cons,List.countP_cons]
   omega
theorem refuse_iv {B:Int} {σ σ':St} {e:Ev} (h:Iv B σ) (hr:refuse σ = some (σ',e)):Iv B σ'∧readies σ'+1=readies σ:=by
 obtain ⟨p,hp,v,k,hv,hk,_,rfl,_⟩:=refuseIn_some hr
 obtain ⟨x,hx,_,hm,hs,_⟩:=asks_mem h hp
 rw [hv] at hx; cases hx
 have hvm:=List.mem_of_getElem? hv
 have hg:=h.serv v hvm
 obtain ⟨w1,w2⟩:=cWait_good hg.s hm
 have hm2:(cWait v.s).1.mode=2:=by rw [w2]
 refine ⟨{ toIw:=h.toIw.setS hv rfl { hg with s:=w1 } (h.num v hvm) (h.ran v hvm),idle:=all_set h.idle ⟨fun e=>by have:=(h.idle v hvm).1 e; omega,fun e=>?_⟩,fix:=Int.le_trans (Int.ofNat_le.2 (fixed_set hv (fun e=>?_))) h.fix },?_⟩
 ·have e:(cWait v.s).1.mode=0:=e
  omega
 ·have e:(eqI (cWait v.s).1.mode 1 && neI v.sec 0)=true:=e
  rw [hs,neI_false.2 rfl,Bool.and_false] at e; cases e
 ·exact filter_set_len hv (eqI_true.2 hm) (eqI_false.2 (by show (cWait v.s).1.mode≠1; omega))
theorem refuses_iv {B:Int}:∀ (n:Nat) {σ : St},Iv B σ→Iv B (refuses n σ).1
 | 0,σ,h=>h
 | n+1,σ,h=>by
  unfold refuses
  split
  ·exact h
  ·rename_i σ' e hr
   exact refuses_iv n (refuse_iv h hr).1
theorem readies_le (σ : St):readies σ≤σ.servs.length:=List.length_filter_le _ _
end Go.AX.pm
