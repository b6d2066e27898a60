import Derived.Test.YtiehbnmpaeedpaaGreatQJ28
import Derived.Test.YtiehbnmpaeedpaaGreatQJ27
set_option linter.unusedSimpArgs false
set_option linter.unusedVariables false
set_option linter.unusedSectionVars false
namespace Go.AX.pm
open Go.AX
theorem Iw.withSL {B R:Int} {σ : St} (h:Iw B R σ) {L:List Serv} {q:Nat} {l l':Lock} (hids:L.map (·.id) = σ.servs.map (·.id)) (hl:σ.sems[q]? = some l) (hm:l'.most=l.most) (hg:∀ x∈L,GoodV σ.sems.length x) (hn:∀ x∈L,0≤x.num∧x.num≤B) (hr:∀ x∈L,0≤x.ran∧x.ran≤R)
  (h1:∀ r:Nat,r≠q→∀ k,LockOk (σ.servs.map key) r k→LockOk (L.map key) r k) (h2:LockOk (L.map key) q l'):Iw B R { σ with servs:=L,sems:=σ.sems.set q l' }:=by
 have hlen:L.length = σ.servs.length:=by have:=congrArg List.length hids; simpa using this
 refine { h with rise:=rise_congr hids.symm h.rise,len1:=by rw [hlen]; exact h.len1,len2:=by simpa using h.len2,serv:=?_,num:=hn,ran:=hr,most:=all_set h.most (by rw [hm]; exact h.most l (List.mem_of_getElem? hl)),lock:=fun r k hk=>?_ }
 ·show ∀ y∈L,GoodV (σ.sems.set q l').length y
  rw [List.length_set]; exact hg
 ·have hk:(σ.sems.set q l')[r]? = some k:=hk
  rw [List.getElem?_set] at hk
  by_cases e:q=r
  ·subst e
   rw [if_pos rfl,if_pos (List.getElem?_eq_some_iff.1 hl).1] at hk
   cases hk; exact h2
  ·rw [if_neg e] at hk
   exact h1 r (fun h=>e h.symm) k (h.lock r k hk)
theorem waiter_at {B R:Int} {σ : St} (h:Iw B R σ) {q:Nat} {l:Lock} (hl:σ.sems[q]? = some l) {y:Int} (hy:y∈l.queue):∃ v,σ.servs[at_ σ.servs y]? = some v∧v.id=y∧v.sec=1∧headSem v=(q:Int)+1:=by
 have:=(h.lock q l hl).wait y
 obtain ⟨v,hv,e⟩:=List.mem_map.1 (this.1 hy)
 unfold key at e
 simp only [Prod.mk.injEq] at e
 obtain ⟨rfl,e2,e3⟩:=e
 rw [if_neg (by omega)] at e3
 exact ⟨v,at_mem h.rise hv,rfl,e2,e3⟩
theorem holder_of {B R:Int} {σ : St} (h:Iw B R σ) {i:Nat} {x:Serv} (hx:σ.servs[i]? = some x) (hs:x.sec=2):∃ q l,headSem x=((q:Nat):Int)+1∧σ.sems[q]? = some l∧l.holder=x.id∧key x=(x.id,2,(q:Int)+1)∧x.jobs≠[]:=by
 have hg:=h.serv x (List.mem_of_getElem? hx)
 have h1:1≤headSem x:=by rcases hg.sec with e | ⟨_,e⟩ <;> omega
 cases hjs:x.jobs with
 | nil=>unfold headSem at h1; rw [hjs] at h1; simp at h1
 | cons j r=>
  have hgj:=hg.jobs j (by rw [hjs]; exact List.mem_cons_self ..)
  have he:headSem x=j.cur.1:=by unfold headSem; rw [hjs]
  have:=hgj.cur.2.1
  obtain ⟨q,hq⟩:∃ q:Nat,headSem x=(q:Int)+1:=⟨(headSem x - 1).toNat,by omega⟩
  have hl:=List.getElem?_eq_getElem (show q < σ.sems.length by omega)
  generalize σ.sems[q]=l at hl
  have hk:key x=(x.id,2,(q:Int)+1):=by rw [key1 (by omega),hs,hq]
  refine ⟨q,l,hq,hl,?_,hk,by simp⟩
  have:=((h.lock q l hl).hold x.id).2 (by rw [← hk]; exact List.mem_map_of_mem (List.mem_of_getElem? hx))
  exact this.2
theorem free_eq0 {σ : St} {q:Nat} {l:Lock} (t:Bool) (hl:σ.sems[q]? = some l) (hq:l.queue=[]):free σ ((q:Int)+1) t=({ σ with sems:=σ.sems.set q { l with holder:=0,dead:=t } },[]):=by
 unfold free
 rw [show ((q:Int)+1 - 1).toNat=q by omega,hl]
 simp only [hq]
theorem free_eq1 {σ : St} {q:Nat} {l:Lock} (t:Bool) {y:Int} {r:List Int} {v:Serv} (hl:σ.sems[q]? = some l) (hq:l.queue=y :: r) (hv:σ.servs[at_ σ.servs y]? = some v):free σ ((q:Int)+1) t=({ σ with sems:=σ.sems.set q { l with holder:=y,queue:=r },servs:=σ.servs.set (at_ σ.servs y) { v with sec:=2,held:=0 } },(bif t then [event σ 7 y 0] else []) ++ [event σ 6 y ((q:Int)+1)]):=by
 unfold free
 rw [show ((q:Int)+1 - 1).toNat=q by omega,hl]
 simp only [hq,hv]
def Next (x x':Serv):Prop:=x'=x∨(x.sec=1∧x' = { x with sec:=2,held:=0 })
theorem rel_iw {B R:Int} {σ : St} (h:Iw B R σ) {i q:Nat} {x x':Serv} {l:Lock} (t:Bool) (hx:σ.servs[i]? = some x) (hk:key x=(x.id,2,(q:Int)+1)) (hl:σ.sems[q]? = some l) (hh:l.holder=x.id) (hid:x'.id=x.id) (hs:x'.sec=0) (hg:GoodV σ.sems.length x') (hn:0≤x'.num∧x'.num≤B) (hr:0≤x'.ran∧x'.ran≤R) :
  let τ:=(free { σ with servs:=σ.servs.set i x' } ((q:Int)+1) t).1
  Iw B R τ∧τ.m = σ.m∧τ.now = σ.now∧τ.backs = σ.backs∧τ.sems.length = σ.sems.length∧τ.servs.map (·.id) = σ.servs.map (·.id)∧τ.servs[i]? = some x'∧(∀ j y,j≠i→σ.servs[j]? = some y→∃ y',τ.servs[j]? = some y'∧Next y y'):=by
 have hi:=(List.getElem?_eq_some_iff.1 hx).1
 have hc:(σ.servs.map key)[i]? = some (key x):=by rw [List.getElem?_map,hx]; rfl
 have hnd:=keys_nd h
 have hL:=h.lock q l hl
 have hids:(σ.servs.set i x').map (·.id) = σ.servs.map (·.id):=ids_set hx hid
 have uq:∀ s a,(x.id,s,a)∈σ.servs.map key→s=2:=fun s a hz=>by
  have:=key_uniq hnd hc hz rfl
  rw [hk] at this
  simp at this; exact this.1
 have e0:key x'=(x.id,0,0):=by rw [key0 hs,hid]
 have hm1:∀ z,z∈(σ.servs.map key).set i (x.id,0,0)↔z=(x.id,0,0)∨(z∈σ.servs.map key∧z.1≠x.id):=fun z=>mem_keys (a:=(x.id,0,0)) hnd hc rfl z
 have nof:∀ (s:Int) (r:Nat),s≠0→∀ id,(id,s,(r:Int)+1)≠(x.id,0,0):=fun s r hs id e=>by
  simp at e; exact hs e.2.1
 intro τ
 cases hq:l.queue with
 | nil=>
  have hτ : τ = { σ with servs:=σ.servs.set i x',sems:=σ.sems.set q { l with holder:=0,dead:=t } }:=by
   show (free { σ with servs:=σ.servs.set i x' } ((q:Int)+1) t).1=_
   rw [free_eq0 (σ:={ σ with servs:=σ.servs.set i x' }) t hl hq]
  clear_value τ
  subst hτ
  refine ⟨?_,rfl,rfl,rfl,by simp,hids,?_,fun j y hj hy=>⟨y,?_,.inl rfl⟩⟩
  ·refine h.withSL (l':={ l with holder:=0,dead:=t }) hids hl rfl (all_set h.serv hg) (all_set h.num hn) (all_set h.ran hr) (fun r hr' k hk'=>?_) ?_
   ·rw [map_set',e0]
    exact hk'.other hnd hc rfl (by rw [hk]; simp; omega) (by simp; omega)
   ·rw [map_set',e0]
    refine ⟨by rw [show ({ l with holder:=0,dead:=t }:Lock).queue=l.queue from rfl]; exact hL.nd,fun id=>?_,fun id=>?_,fun _=>hq⟩
    ·rw [hm1]
     rw [show ({ l with holder:=0,dead:=t }:Lock).queue=l.queue from rfl,hL.wait]
     constructor
     ·intro hz
      refine .inr ⟨hz,fun e=>?_⟩
      rw [show (id,(1:Int),(q:Int)+1).1=id from rfl] at e
      subst e
      have:=uq _ _ hz; omega
     ·rintro (e | ⟨hz,_⟩)
      ·exact absurd e (nof 1 q (by omega) id)
      ·exact hz
    ·rw [hm1]
     constructor
     ·rintro ⟨h1,h2⟩; exact absurd h2.symm h1
     ·rintro (e | ⟨hz,hne⟩)
      ·exact absurd e (nof 2 q (by omega) id)
      ·have:=(hL.hold id).2 hz
       rw [hh] at this
       exact absurd this.2.symm hne
  ·show (σ.servs.set i x')[i]? = _
   rw [List.getElem?_set,if_pos rfl,if_pos hi]
  ·show (σ.servs.set i x')[j]? = _
   rw [List.getElem?_set,if_neg (fun h=>hj h.symm)]; exact hy
 | cons y r=>
  obtain ⟨v,hv,hvid,hvs,hvh⟩:=waiter_at h hl (y:=y) (by rw [hq]; exact List.mem_cons_self ..)
  have hki:at_ σ.servs y≠i:=fun e=>by
   rw [e,hx] at hv; cases hv
   have:=congrArg (·.2.1) hk
   unfold key at this
   simp at this; omega
  have hat:at_ (σ.servs.set i x') y=at_ σ.servs y:=at_congr hids y
  generalize hp:at_ σ.servs y=p at hv hki hat
  have hv':(σ.servs.set i x')[p]? = some v:=by rw [List.getElem?_set,if_neg (fun h=>hki h.symm)]; exact hv
  have hτ : τ = { σ with servs:=(σ.servs.set i x').set p { v with sec:=2,held:=0 },sems:=σ.sems.set q { l with holder:=y,queue:=r } }:=by
   show (free { σ with servs:=σ.servs.set i x' } ((q:Int)+1) t).1=_
   rw [free_eq1 (σ:={ σ with servs:=σ.servs.set i x' }) t hl hq (by show (σ.servs.set i x')[at_ (σ.servs.set i x') y]? = some v; rw [hat]; exact hv')]
   show ({ σ with servs:=(σ.servs.set i x').set (at_ (σ.servs.set i x') y) _,sems:=_ }:St)=_
   rw [hat]
  clear_value τ
  subst hτ
  have hvm:=List.mem_of_getElem? hv
  have hgv:=h.serv v hvm
  have hids2:((σ.servs.set i x').set p { v with sec:=2,held:=0 }).map (·.id) = σ.servs.map (·.id):=(ids_set (x':={ v with sec:=2,held:=0 }) hv' rfl).trans hids
  have e2:key { v with sec:=2,held:=0 }=(y,2,(q:Int)+1):=by
   rw [key1 (by simp),← hvh,← hvid]; rfl
  have e3:key v=(y,1,(q:Int)+1):=by rw [key1 (by omega),hvs,hvh,hvid]
  have hyx:y≠x.id:=fun e=>by
   have:(x.id,(1:Int),(q:Int)+1)∈σ.servs.map key:=by rw [← e,← e3]; exact List.mem_map_of_mem hvm
   have:=uq _ _ this; omega
  have hnd1:(((σ.servs.map key).set i (x.id,0,0)).map (·.1)).Nodup:=by
   have:((σ.servs.map key).set i (x.id,0,0)).map (·.1)=(σ.servs.set i x').map (·.id):=by rw [← e0,← map_set',keys_fst]
   rw [this,hids]; exact Rise.nd h.rise
  have hc1:((σ.servs.map key).set i (x.id,0,0))[p]? = some (y,1,(q:Int)+1):=by
   rw [List.getElem?_set,if_neg (fun h=>hki h.symm),List.getElem?_map,hv,← e3]; rfl
  have hm2:∀ z,z∈((σ.servs.map key).set i (x.id,0,0)).set p (y,2,(q:Int)+1)↔z=(y,2,(q:Int)+1)∨(z∈(σ.servs.map key).set i (x.id,0,0)∧z.1≠y):=fun z=>mem_keys (a:=(y,2,(q:Int)+1)) hnd1 hc1 rfl z
  have hnq:=hL.nd
  rw [hq,List.nodup_cons] at hnq
  refine ⟨?_,rfl,rfl,rfl,by simp,hids2,?_,fun j u hj hu=>?_⟩
  ·refine h.withSL (l':={ l with holder:=y,queue:=r }) hids2 hl rfl ?_ ?_ ?_ (fun r' hr' k hk'=>?_) ?_
   ·exact all_set (all_set h.serv hg) { hgv with sec:=.inr ⟨.inr rfl,by show 1≤headSem v; omega⟩,done0:=fun h _=>absurd rfl h }
   ·exact all_set (all_set h.num hn) (h.num v hvm)
   ·exact all_set (all_set h.ran hr) (h.ran v hvm)
   ·rw [map_set',map_set',e0,e2]
    refine (hk'.other (r:=r') (a:=(x.id,0,0)) hnd hc rfl (by rw [hk]; simp; omega) (by simp; omega)).other hnd1 hc1 rfl (by simp; omega) (by simp; omega)
   ·rw [map_set',map_set',e0,e2]
    refine ⟨hnq.2,fun id=>?_,fun id=>?_,fun h0=>?_⟩
    ·rw [hm2,hm1]
     constructor
     ·intro hid
      have h1:(id,(1:Int),(q:Int)+1)∈σ.servs.map key:=(hL.wait id).1 (by rw [hq]; exact List.mem_cons_of_mem _ hid)
      refine .inr ⟨.inr ⟨h1,fun e=>?_⟩,fun e=>?_⟩
      ·rw [show (id,(1:Int),(q:Int)+1).1=id from rfl] at e
       subst e
       have:=uq _ _ h1; omega
      ·rw [show (id,(1:Int),(q:Int)+1).1=id from rfl] at e
       subst e
       exact hnq.1 hid
     ·rintro (e | ⟨e | ⟨hz,_⟩,hne⟩)
      ·simp at e
      ·exact absurd e (nof 1 q (by omega) id)
      ·have:=(hL.wait id).2 hz
       rw [hq] at this
       rcases List.mem_cons.1 this with e | e
       ·exact absurd e hne
       ·exact e
    ·rw [hm2,hm1]
     constructor
     ·rintro ⟨_,e⟩
      have e:y=id:=e
      exact .inl (by rw [e])
     ·rintro (e | ⟨e | ⟨hz,hne⟩,_⟩)
      ·simp at e
       have:=hgv.id1
       exact ⟨by omega,e.symm⟩
      ·exact absurd e (nof 2 q (by omega) id)
      ·have:=(hL.hold id).2 hz
       rw [hh] at this
       exact absurd this.2.symm hne
    ·have h0:y=0:=h0
     have:=hgv.id1
     omega
  ·show ((σ.servs.set i x').set p _)[i]? = _
   rw [List.getElem?_set,if_neg hki,List.getElem?_set,if_pos rfl,if_pos hi]
  ·show ∃ y',((σ.servs.set i x').set p _)[j]? = some y'∧_
   by_cases e:p=j
   ·subst e
    rw [hv] at hu; cases hu
    refine ⟨_,?_,.inr ⟨hvs,rfl⟩⟩
    rw [List.getElem?_set,if_pos rfl,if_pos (by rw [List.length_set]; exact (List.getElem?_eq_some_iff.1 hv).1)]
   ·refine ⟨u,?_,.inl rfl⟩
    rw [List.getElem?_set,if_neg e,List.getElem?_set,if_neg (fun h=>hj h.symm)]; exact hu
end Go.AX.pm
namespace Go.AX.pm
open Go.AX
noncomputable def fin (x : Serv) (J : List Job) : Serv := match J with
  | [] => { x with sec := 0, jobs := [], s := (cIdle x.s).1 }
  | j :: r => { x with sec := 0, jobs := j :: r }
theorem free_comm {σ : St} {i q : Nat} {x a b : Serv} {l : Lock} (t : Bool) (hx : σ.servs[i]? = some x) (ha : a.id = x.id) (hb : b.id = x.id) (hl : σ.sems[q]? = some l) (hne : ∀ y r, l.queue = y :: r → at_ σ.servs y ≠ i ∧ ∃ v, σ.servs[at_ σ.servs y]? = some v) :
    ({ (free { σ with servs := σ.servs.set i a } ((q : Int) + 1) t).1 with servs := (free { σ with servs := σ.servs.set i a } ((q : Int) + 1) t).1.servs.set i b } : St) = (free { σ with servs := σ.servs.set i b } ((q : Int) + 1) t).1 ∧
    (free { σ with servs := σ.servs.set i a } ((q : Int) + 1) t).1.servs[i]? = some a ∧ (free { σ with servs := σ.servs.set i a } ((q : Int) + 1) t).2 = (free { σ with servs := σ.servs.set i b } ((q : Int) + 1) t).2 := by
  have hi := (List.getElem?_eq_some_iff.1 hx).1
  cases hq : l.queue with
  | nil =>
    rw [free_eq0 (σ := { σ with servs := σ.servs.set i a }) t hl hq, free_eq0 (σ := { σ with servs := σ.servs.set i b }) t hl hq]
    refine ⟨?_, ?_, rfl⟩
    · simp only [List.set_set]
    · show (σ.servs.set i a)[i]? = _
      rw [List.getElem?_set, if_pos rfl, if_pos hi]
  | cons y r =>
    obtain ⟨h1, v, hv⟩ := hne y r hq
    have ea : at_ (σ.servs.set i a) y = at_ σ.servs y := at_congr (ids_set hx ha) y
    have eb : at_ (σ.servs.set i b) y = at_ σ.servs y := at_congr (ids_set hx hb) y
    have va : (σ.servs.set i a)[at_ (σ.servs.set i a) y]? = some v := by rw [ea, List.getElem?_set, if_neg (fun h => h1 h.symm)]; exact hv
    have vb : (σ.servs.set i b)[at_ (σ.servs.set i b) y]? = some v := by rw [eb, List.getElem?_set, if_neg (fun h => h1 h.symm)]; exact hv
    rw [free_eq1 (σ := { σ with servs := σ.servs.set i a }) t hl hq va, free_eq1 (σ := { σ with servs := σ.servs.set i b }) t hl hq vb]
    simp only [ea, eb]
    refine ⟨?_, ?_, rfl⟩
    · congr 1
      rw [List.set_comm _ _ (fun h => h1 h), List.set_set]
    · rw [List.getElem?_set, if_neg h1, List.getElem?_set, if_pos rfl, if_pos hi]
theorem end2_eq {σ : St} {i : Nat} {x : Serv} (hx : σ.servs[i]? = some x) : (end2 σ i).1 = match x.jobs with
    | [] => { σ with servs := σ.servs.set i { x with s := (cIdle x.s).1 } }
    | _ :: _ => σ := by
  unfold end2
  rw [hx]
  simp only
  cases x.jobs <;> rfl
noncomputable def after (j : Job) (r : List Job) : List Job := if j.at_ + 1 = j.prog.length then r else { j with at_ := j.at_ + 1, done := 0 } :: r
theorem end_eq {B R : Int} {σ : St} (h : Iw B R σ) {i : Nat} {x : Serv} {j : Job} {r : List Job} (hx : σ.servs[i]? = some x) (hjs : x.jobs = j :: r) :
    (j.done ≠ j.cur.2 ∧ (∀ q l, x.sec = 2 → headSem x = ((q : Nat) : Int) + 1 → σ.sems[q]? = some l → x.held ≠ l.most) ∧ (end_ σ i).1 = σ) ∨
    (j.done = j.cur.2 ∧ x.sec = 0 ∧ headSem x ≤ 0 ∧ (end_ σ i).1 = { σ with servs := σ.servs.set i (fin x (after j r)) }) ∨
    (∃ q l, x.sec = 2 ∧ headSem x = ((q : Nat) : Int) + 1 ∧ σ.sems[q]? = some l ∧ l.holder = x.id ∧ key x = (x.id, 2, (q : Int) + 1) ∧
      ((j.done = j.cur.2 ∧ (end_ σ i).1 = (free { σ with servs := σ.servs.set i (fin x (after j r)) } ((q : Int) + 1) false).1) ∨
       (j.done ≠ j.cur.2 ∧ x.held = l.most ∧ (end_ σ i).1 = (free { σ with servs := σ.servs.set i (fin x r) } ((q : Int) + 1) true).1))) := by
  have hxm := List.mem_of_getElem? hx
  have hg := h.serv x hxm
  have hgj := hg.jobs j (by rw [hjs]; exact List.mem_cons_self ..)
  have hst := hgj.step
  have hsem : headSem x = j.cur.1 := by unfold headSem; rw [hjs]
  have hi := (List.getElem?_eq_some_iff.1 hx).1
  have hset : ∀ (s : List Serv) (a b : Serv), (s.set i a).set i b = s.set i b := fun s a b => List.set_set ..
  have hnx : j.done = j.cur.2 → (bif eqI (jNext j).1.at_ (lenI j.prog.length) then r else (jNext j).1 :: r) = after j r := fun hd => by
    obtain ⟨e, _⟩ := jNext_good hgj hd
    unfold after
    rw [e]
    by_cases hl : j.at_ + 1 = j.prog.length
    · rw [if_pos hl, show eqI (j.at_ + 1) (lenI j.prog.length) = true from eqI_true.2 hl]; rfl
    · rw [if_neg hl, show eqI (j.at_ + 1) (lenI j.prog.length) = false from eqI_false.2 hl]; rfl
  have hfin : ∀ J : List Job, fin x J = (match J with | [] => { ({ x with sec := 0, jobs := J } : Serv) with s := (cIdle x.s).1 } | _ :: _ => { x with sec := 0, jobs := J }) := fun J => by
    unfold fin; cases J <;> rfl
  have wait : ∀ (q : Nat) (l : Lock), σ.sems[q]? = some l → l.holder = x.id → key x = (x.id, 2, (q : Int) + 1) → ∀ y r', l.queue = y :: r' → at_ σ.servs y ≠ i ∧ ∃ v, σ.servs[at_ σ.servs y]? = some v := fun q l hl hh hk y r' hq => by
    obtain ⟨v, hv, hvid, hvs, _⟩ := waiter_at h hl (y := y) (by rw [hq]; exact List.mem_cons_self ..)
    refine ⟨fun e => ?_, v, hv⟩
    rw [e, hx] at hv; cases hv
    have := congrArg (·.2.1) hk
    unfold key at this
    simp at this; omega
  obtain ⟨i1, i2, i3, i4, i5, i6, i7⟩ := x
  simp only at hjs hsem hfin
  subst hjs
  by_cases hd : j.done = j.cur.2
  · have he : eqI j.done j.cur.2 = true := eqI_true.2 hd
    by_cases hs : i4 = 2
    · subst hs
      obtain ⟨q, l, q1, q2, q3, q4, _⟩ := holder_of h hx rfl
      have hq1 : j.cur.1 = (q : Int) + 1 := by rw [← hsem]; exact q1
      refine .inr (.inr ⟨q, l, rfl, q1, q2, q3, q4, .inl ⟨hd, ?_⟩⟩)
      obtain ⟨c1, c2, _⟩ := free_comm (a := ⟨i1, i2, j :: r, 0, i5, i6, i7⟩) (b := ⟨i1, i2, after j r, 0, i5, i6, i7⟩) false hx rfl rfl q2 (wait q l q2 q3 q4)
      obtain ⟨d1, d2, _⟩ := free_comm (a := ⟨i1, i2, after j r, 0, i5, i6, i7⟩) (b := fin ⟨i1, i2, j :: r, 2, i5, i6, i7⟩ (after j r)) false hx rfl (by rw [hfin]; cases after j r <;> rfl) q2 (wait q l q2 q3 q4)
      have e1 : (end1 σ i).1 = (free { σ with servs := σ.servs.set i ⟨i1, i2, after j r, 0, i5, i6, i7⟩ } ((q : Int) + 1) false).1 := by
        unfold end1
        rw [hx]
        simp only [hst, he, cond_true, hq1, show eqI 2 2 = true from eqI_true.2 rfl]
        rw [c2, ← c1, ← hnx hd]
        simp only
        cases eqI (jNext j).1.at_ (lenI j.prog.length) <;> rfl
      show (end2 (end1 σ i).1 i).1 = _
      rw [e1, end2_eq d2]
      simp only
      rw [hfin] at d1 ⊢
      cases hJ : after j r with
      | nil => rw [hJ] at d1; exact d1
      | cons j' r' => rfl
    · have h0 : i4 = 0 ∧ j.cur.1 ≤ 0 := by
        have hd0 := hg.done0 hs
        have c1 := hgj.cur.2.2.1
        have : ¬ (1 ≤ j.cur.1) := fun h1 => by
          have := hd0 (by rw [hsem]; exact h1)
          unfold headDone at this
          simp at this; omega
        rcases hg.sec with e | ⟨_, e⟩
        · exact ⟨e, by omega⟩
        · rw [hsem] at e; exact absurd e this
      obtain ⟨h0, hc0⟩ := h0
      subst h0
      refine .inr (.inl ⟨hd, rfl, by rw [hsem]; exact hc0, ?_⟩)
      have e1 : (end1 σ i).1 = { σ with servs := σ.servs.set i ⟨i1, i2, after j r, 0, i5, i6, i7⟩ } := by
        unfold end1
        rw [hx]
        simp only [hst, he, cond_true, show eqI 0 2 = false from eqI_false.2 (by omega), cond_false]
        rw [hx, ← hnx hd]
        simp only
        cases eqI (jNext j).1.at_ (lenI j.prog.length) <;> rfl
      show (end2 (end1 σ i).1 i).1 = _
      rw [e1, end2_eq (x := ⟨i1, i2, after j r, 0, i5, i6, i7⟩) (by show (σ.servs.set i _)[i]? = _; rw [List.getElem?_set, if_pos rfl, if_pos hi])]
      simp only
      rw [hfin]
      cases hJ : after j r with
      | nil => simp only [hset]
      | cons j' r' => rfl
  · have he : eqI j.done j.cur.2 = false := eqI_false.2 hd
    by_cases hs : i4 = 2
    · subst hs
      obtain ⟨q, l, q1, q2, q3, q4, _⟩ := holder_of h hx rfl
      have hq1 : j.cur.1 = (q : Int) + 1 := by rw [← hsem]; exact q1
      by_cases hh : i5 = l.most
      · refine .inr (.inr ⟨q, l, rfl, q1, q2, q3, q4, .inr ⟨hd, hh, ?_⟩⟩)
        obtain ⟨d1, d2, _⟩ := free_comm (a := ⟨i1, i2, r, 0, i5, i6, i7⟩) (b := fin ⟨i1, i2, j :: r, 2, i5, i6, i7⟩ r) true hx rfl (by rw [hfin]; cases r <;> rfl) q2 (wait q l q2 q3 q4)
        have e1 : (end1 σ i).1 = (free { σ with servs := σ.servs.set i ⟨i1, i2, r, 0, i5, i6, i7⟩ } ((q : Int) + 1) true).1 := by
          unfold end1
          rw [hx]
          simp only [hst, he, cond_false, hq1, show eqI 2 2 = true from eqI_true.2 rfl, show ((q : Int) + 1 - 1).toNat = q by omega, q2, show eqI i5 l.most = true from eqI_true.2 hh, Bool.and_self, cond_true]
        show (end2 (end1 σ i).1 i).1 = _
        rw [e1, end2_eq d2]
        simp only
        rw [hfin] at d1 ⊢
        cases hJ : r with
        | nil => rw [hJ] at d1; exact d1
        | cons j' r' => rfl
      · refine .inl ⟨hd, fun q' l' _ hq' hl' => ?_, ?_⟩
        · have : q' = q := by have : (q' : Int) + 1 = q + 1 := by rw [← hq', ← q1]
                              omega
          subst this
          rw [q2] at hl'; cases hl'; exact hh
        · have e1 : (end1 σ i).1 = σ := by
            unfold end1
            rw [hx]
            simp only [hst, he, cond_false, hq1, show ((q : Int) + 1 - 1).toNat = q by omega, q2, show eqI i5 l.most = false from eqI_false.2 hh, Bool.and_false]
          show (end2 (end1 σ i).1 i).1 = _
          rw [e1, end2_eq hx]
    · refine .inl ⟨hd, fun q l e => absurd e hs, ?_⟩
      have e1 : (end1 σ i).1 = σ := by
        unfold end1
        rw [hx]
        simp only [hst, he, cond_false, show eqI i4 2 = false from eqI_false.2 hs, Bool.false_and]
      show (end2 (end1 σ i).1 i).1 = _
      rw [e1, end2_eq hx]
theorem fin_id (x : Serv) (J : List Job) : (fin x J).id = x.id ∧ (fin x J).sec = 0 ∧ (fin x J).jobs = J ∧ (fin x J).num = x.num ∧ (fin x J).ran = x.ran := by
  unfold fin; cases J <;> exact ⟨rfl, rfl, rfl, rfl, rfl⟩
theorem fin_good {k : Nat} {x : Serv} {j : Job} {r J : List Job} (h : GoodV k x) (hjs : x.jobs = j :: r) (hi : Idl x) (hJ : J = r ∨ (j.done = j.cur.2 ∧ J = after j r)) : GoodV k (fin x J) ∧ Idl (fin x J) := by
  have hgj := h.jobs j (by rw [hjs]; exact List.mem_cons_self ..)
  have hlen := h.len
  rw [hjs] at hlen
  simp at hlen
  have hm : x.s.mode ≠ 0 := fun e => by have := hi.2 e; rw [hjs] at this; cases this
  have hr : ∀ y ∈ r, y.at_ = 0 ∧ y.done = 0 := fun y hy => h.rest y (by rw [hjs]; exact hy)
  have key : (∀ y ∈ J, GoodJ k y) ∧ J.length ≤ 8 ∧ (∀ y ∈ J.tail, y.at_ = 0 ∧ y.done = 0) ∧ (∀ y r', J = y :: r' → y.done = 0) := by
    have hR : (∀ y ∈ r, GoodJ k y) ∧ r.length ≤ 8 ∧ (∀ y ∈ r.tail, y.at_ = 0 ∧ y.done = 0) ∧ (∀ y r', r = y :: r' → y.done = 0) :=
      ⟨fun y hy => h.jobs y (by rw [hjs]; exact List.mem_cons_of_mem _ hy), by omega, fun y hy => hr y (List.mem_of_mem_tail hy), fun y r' e => (hr y (by rw [e]; exact List.mem_cons_self ..)).2⟩
    rcases hJ with e | ⟨hd, e⟩
    · subst e; exact hR
    · unfold after at e
      by_cases hl : j.at_ + 1 = j.prog.length
      · rw [if_pos hl] at e; subst e; exact hR
      · rw [if_neg hl] at e; subst e
        obtain ⟨e1, e2⟩ := jNext_good hgj hd
        have e2 := e2 hl
        rw [e1] at e2
        refine ⟨fun y hy => ?_, by simp; omega, fun y hy => hr y hy, fun y r' e => by cases e; rfl⟩
        rcases List.mem_cons.1 hy with e | hy
        · subst e; exact e2
        · exact hR.1 y hy
  obtain ⟨k1, k2, k3, k4⟩ := key
  obtain ⟨f1, f2, f3, f4, f5⟩ := fin_id x J
  have hid : (fin x J).s = if J = [] then (cIdle x.s).1 else x.s := by unfold fin; cases J <;> rfl
  refine ⟨⟨by rw [f1]; exact h.id1, by rw [f1]; exact h.id2, ?_, by rw [f3]; exact k2, by rw [f3]; exact k1, by rw [f3]; exact k3, .inl f2, fun _ _ => ?_⟩, ?_⟩
  · rw [hid]
    split
    · exact (cIdle_good h.s).1
    · exact h.s
  · unfold headDone
    rw [f3]
    cases hJ' : J with
    | nil => rfl
    | cons y r' => exact k4 y r' hJ'
  · unfold Idl
    rw [f3, hid]
    by_cases e : J = []
    · rw [if_pos e]
      exact ⟨fun _ => (cIdle_good h.s).2, fun _ => e⟩
    · rw [if_neg e]
      exact ⟨fun h => absurd h e, fun h => absurd h hm⟩
theorem end_iv {B : Int} {σ : St} (h : Iv B σ) {i : Nat} {x : Serv} {j : Job} {r : List Job} (hx : σ.servs[i]? = some x) (hjs : x.jobs = j :: r) :
    Iv B (end_ σ i).1 ∧ (end_ σ i).1.m = σ.m ∧ (end_ σ i).1.now = σ.now ∧ (end_ σ i).1.backs = σ.backs ∧ (end_ σ i).1.sems.length = σ.sems.length ∧ (end_ σ i).1.servs.map (·.id) = σ.servs.map (·.id) ∧ (∀ k y, k ≠ i → σ.servs[k]? = some y → ∃ y', (end_ σ i).1.servs[k]? = some y' ∧ Next y y') := by
  have hxm := List.mem_of_getElem? hx
  have hg := h.serv x hxm
  have hi := (List.getElem?_eq_some_iff.1 hx).1
  have hfix : ∀ J, (eqI (fin x J).s.mode 1 && neI (fin x J).sec 0) = true → (eqI x.s.mode 1 && neI x.sec 0) = true := fun J hb => by
    rw [(fin_id x J).2.1, neI_false.2 rfl, Bool.and_false] at hb; cases hb
  have rel : ∀ (q : Nat) (l : Lock) (t : Bool) (J : List Job), (J = r ∨ (j.done = j.cur.2 ∧ J = after j r)) → σ.sems[q]? = some l → l.holder = x.id → key x = (x.id, 2, (q : Int) + 1) →
      let τ := (free { σ with servs := σ.servs.set i (fin x J) } ((q : Int) + 1) t).1
      Iv B τ ∧ τ.m = σ.m ∧ τ.now = σ.now ∧ τ.backs = σ.backs ∧ τ.sems.length = σ.sems.length ∧ τ.servs.map (·.id) = σ.servs.map (·.id) ∧ (∀ k y, k ≠ i → σ.servs[k]? = some y → ∃ y', τ.servs[k]? = some y' ∧ Next y y') := by
    intro q l t J hJ hl hh hk τ
    obtain ⟨f1, f2, f3, f4, f5⟩ := fin_id x J
    obtain ⟨g1, g2⟩ := fin_good hg hjs (h.idle x hxm) hJ
    obtain ⟨a1, a2, a3, a4, a5, a6, a7, a8⟩ := rel_iw (t := t) h.toIw hx hk hl hh f1 f2 g1 (by rw [f4]; exact h.num x hxm) (by rw [f5]; exact h.ran x hxm)
    refine ⟨{ toIw := by rw [a3]; exact a1, idle := fun y' hy' => ?_, fix := ?_ }, a2, a3, a4, a5, a6, a8⟩
    · obtain ⟨k, hk'⟩ := List.getElem?_of_mem hy'
      by_cases e : k = i
      · subst e
        rw [a7] at hk'; cases hk'; exact g2
      · have hlen : τ.servs.length = σ.servs.length := by have := congrArg List.length a6; simpa using this
        have hkl : k < σ.servs.length := by rw [← hlen]; exact (List.getElem?_eq_some_iff.1 hk').1
        obtain ⟨y2, b1, b2⟩ := a8 k _ e (List.getElem?_eq_getElem hkl)
        rw [hk'] at b1; cases b1
        have := h.idle _ (List.getElem_mem hkl)
        rcases b2 with e | ⟨_, e⟩
        · rw [e]; exact this
        · rw [e]; exact this
    · refine Int.le_trans (Int.ofNat_le.2 ?_) (by rw [a2]; exact h.fix)
      have e1 : pl.nfix ((ready (σ.servs.set i (fin x J))).map Serv.ent) ≤ fixed σ := fixed_set hx (hfix J)
      refine Nat.le_trans ?_ e1
      cases hq : l.queue with
      | nil =>
        have : τ.servs = σ.servs.set i (fin x J) := by
          show (free { σ with servs := σ.servs.set i (fin x J) } ((q : Int) + 1) t).1.servs = _
          rw [free_eq0 (σ := { σ with servs := σ.servs.set i (fin x J) }) t hl hq]
        unfold fixed
        rw [this]
        exact Nat.le_refl _
      | cons y r' =>
        obtain ⟨v, hv, hvid, hvs, _⟩ := waiter_at h.toIw hl (y := y) (by rw [hq]; exact List.mem_cons_self ..)
        have hat : at_ (σ.servs.set i (fin x J)) y = at_ σ.servs y := at_congr (ids_set hx f1) y
        have hki : at_ σ.servs y ≠ i := fun e => by
          rw [e, hx] at hv; cases hv
          have := congrArg (·.2.1) hk
          unfold key at this
          simp at this; omega
        have hv' : (σ.servs.set i (fin x J))[at_ (σ.servs.set i (fin x J)) y]? = some v := by rw [hat, List.getElem?_set, if_neg (fun h => hki h.symm)]; exact hv
        have : τ.servs = (σ.servs.set i (fin x J)).set (at_ (σ.servs.set i (fin x J)) y) { v with sec := 2, held := 0 } := by
          show (free { σ with servs := σ.servs.set i (fin x J) } ((q : Int) + 1) t).1.servs = _
          rw [free_eq1 (σ := { σ with servs := σ.servs.set i (fin x J) }) t hl hq hv']
        unfold fixed
        rw [this]
        refine fixed_set hv' (fun hb => ?_)
        simp only [Bool.and_eq_true] at hb ⊢
        exact ⟨hb.1, neI_true.2 (by omega)⟩
  rcases end_eq h.toIw hx hjs with ⟨_, _, e⟩ | ⟨hd, hs, _, e⟩ | ⟨q, l, hs, hq, hl, hh, hk, ⟨hd, e⟩ | ⟨hd, _, e⟩⟩
  · rw [e]; exact ⟨h, rfl, rfl, rfl, rfl, rfl, fun k y _ hy => ⟨y, hy, .inl rfl⟩⟩
  · rw [e]
    obtain ⟨f1, f2, f3, f4, f5⟩ := fin_id x (after j r)
    obtain ⟨g1, g2⟩ := fin_good hg hjs (h.idle x hxm) (.inr ⟨hd, rfl⟩)
    refine ⟨{ toIw := h.toIw.setS hx ?_ g1 (by rw [f4]; exact h.num x hxm) (by rw [f5]; exact h.ran x hxm), idle := all_set h.idle g2, fix := Int.le_trans (Int.ofNat_le.2 (fixed_set hx (hfix _))) h.fix }, rfl, rfl, rfl, rfl, ids_set hx f1, fun k y hk hy => ⟨y, ?_, .inl rfl⟩⟩
    · rw [key0 f2, key0 hs, f1]
    · show (σ.servs.set i _)[k]? = _
      rw [List.getElem?_set, if_neg (fun h => hk h.symm)]; exact hy
  · rw [e]; exact rel q l false _ (.inr ⟨hd, rfl⟩) hl hh hk
  · rw [e]; exact rel q l true _ (.inl rfl) hl hh hk
end Go.AX.pm
namespace Go.AX.pm
open Go.AX
theorem ends_iv {B:Int}:∀ {L:List Nat} {σ : St},Iv B σ→L.Nodup→(∀ p∈L,∃ x,σ.servs[p]? = some x∧x.jobs≠[]) →
  Iv B (ends σ L).1∧(ends σ L).1.m = σ.m∧(ends σ L).1.now = σ.now∧(ends σ L).1.backs = σ.backs∧(ends σ L).1.sems.length = σ.sems.length∧(ends σ L).1.servs.map (·.id) = σ.servs.map (·.id)
 | [],σ,h,_,_=>⟨h,rfl,rfl,rfl,rfl,rfl⟩
 | i :: r,σ,h,hn,hp=>by
  rw [List.nodup_cons] at hn
  obtain ⟨x,hx,hj⟩:=hp i (List.mem_cons_self ..)
  cases hjs:x.jobs with
  | nil=>exact absurd hjs hj
  | cons j js=>
   obtain ⟨a1,a2,a3,a4,a5,a6,a7⟩:=end_iv h hx hjs
   obtain ⟨b1,b2,b3,b4,b5,b6⟩:=ends_iv (L:=r) a1 hn.2 (fun p hpr=>by
    obtain ⟨y,hy,hyj⟩:=hp p (List.mem_cons_of_mem _ hpr)
    obtain ⟨y',hy',hN⟩:=a7 p y (fun e=>hn.1 (e ▸ hpr)) hy
    refine ⟨y',hy',?_⟩
    rcases hN with e | ⟨_,e⟩
    ·rw [e]; exact hyj
    ·rw [e]; exact hyj)
   exact ⟨b1,b2.trans a2,b3.trans a3,b4.trans a4,b5.trans a5,b6.trans a6⟩
theorem places_ok {B:Int} {σ : St} (h:Iv B σ) (ha:Asked σ):RunPl σ ((runners σ).map (at_ σ.servs)):=by
 refine ⟨?_,fun p hp=>?_⟩
 ·rw [List.Nodup,List.pairwise_map]
  refine (List.Pairwise.and_mem.1 (runners_nd σ)).imp fun {a b} hab=>?_
  obtain ⟨h1,h2,hne⟩:=hab
  obtain ⟨x,hx,rfl,_⟩:=runner_at h h1
  obtain ⟨y,hy,rfl,_⟩:=runner_at h h2
  intro e
  rw [e,hy] at hx; cases hx
  exact hne rfl
 ·obtain ⟨id,hid,rfl⟩:=List.mem_map.1 hp
  obtain ⟨x,hx,rfl,hm,hj⟩:=runner_at h hid
  exact ⟨x,hx,hm,hj,ha x (List.mem_of_getElem? hx) hid⟩
noncomputable def turned (l:List Back) (n:Nat):List Back:=l.drop n ++ (l.take n).map fun b=>{ b with ran:=addI .i64 b.ran 1 }
theorem turned_ok {l:List Back} {R:Int} (n:Nat) (hR:R≤4611686018427387904) (h:∀ b∈l,1≤b.id∧b.id≤255∧0≤b.ran∧b.ran≤R) (hn:(l.map (·.id)).Nodup) :
  (turned l n).length=l.length∧(∀ b∈turned l n,1≤b.id∧b.id≤255∧0≤b.ran∧b.ran≤R+1)∧((turned l n).map (·.id)).Nodup:=by
 unfold turned
 refine ⟨?_,fun b hb=>?_,?_⟩
 ·rw [List.length_append,List.length_map,List.length_drop,List.length_take]; omega
 ·rcases List.mem_append.1 hb with hb | hb
  ·have:=h b (List.mem_of_mem_drop hb); omega
  ·obtain ⟨c,hc,rfl⟩:=List.mem_map.1 hb
   obtain ⟨h1,h2,h3,h4⟩:=h c (List.mem_of_mem_take hc)
   refine ⟨h1,h2,?_⟩
   show 0≤addI .i64 c.ran 1∧addI .i64 c.ran 1≤R+1
   rw [addI_64 (by omega) (by omega)]; omega
 ·rw [List.map_append,List.map_map]
  have e:(List.take n l).map ((fun b:Back=>b.id) ∘ fun b=>{ b with ran:=addI .i64 b.ran 1 })=(List.take n l).map (·.id):=rfl
  rw [e,← List.map_append]
  have hp:(l.drop n ++ l.take n).Perm l:=List.perm_append_comm.trans (by rw [List.take_append_drop])
  exact (hp.map _).nodup_iff.2 hn
theorem tick_eq {σ : St} (h:σ.now < 4611686018427387904):tick σ = (let a:=settle σ; let t:=runs a.1 ((runners a.1).map (at_ a.1.servs)); let e:=ends { t with backs:=turned t.backs (backers a.1).length,now:=addI .i64 t.now 1 } ((runners a.1).map (at_ a.1.servs)); (e.1,a.2 ++ e.2,0)):=by
 unfold tick turned
 rw [show leI horizon σ.now=false from leI_false.2 h]; rfl
theorem settle_now {B:Int} {σ : St} (h:Iv B σ):(settle σ).1.now = σ.now∧(settle σ).1.backs = σ.backs∧(settle σ).1.sems.length = σ.sems.length∧(settle σ).1.servs.map (·.id) = σ.servs.map (·.id):=by
 have h1:=refuses_iv (σ.servs.length+1) (turnS_iv h)
 have g:=(grants_iv h1).2.1
 have gen:∀ (n:Nat) {τ : St},Iv B τ→(refuses n τ).1.now = τ.now∧(refuses n τ).1.backs = τ.backs∧(refuses n τ).1.sems = τ.sems∧(refuses n τ).1.servs.map (·.id) = τ.servs.map (·.id):=by
  intro n
  induction n with
  | zero=>intro τ _; exact ⟨rfl,rfl,rfl,rfl⟩
  | succ n ih=>
   intro τ hτ
   unfold refuses
   split
   ·exact ⟨rfl,rfl,rfl,rfl⟩
   ·rename_i σ' e hr
    obtain ⟨a,b,c,d⟩:=ih (refuse_iv hτ hr).1
    obtain ⟨p,hp,v,k,hv,_,_,e,_⟩:=refuseIn_some hr
    subst e
    refine ⟨a,b,c,d.trans ?_⟩
    exact ids_set hv rfl
 obtain ⟨a,b,c,d⟩:=gen (σ.servs.length+1) (turnS_iv h)
 refine ⟨g.now.trans a,g.backs.trans b,g.sems.trans (by rw [c]; rfl),(g.ids.trans d).trans ?_⟩
 rw [← keys_fst,turnS_keys,keys_fst]
theorem ran_iv {B:Int} {σ : St} (h:Iv B σ) (hn:σ.now < 4611686018427387904) {L:List Nat} (hL:RunPl σ L) (n:Nat) :
  Iv B { runs σ L with backs:=turned (runs σ L).backs n,now:=addI .i64 (runs σ L).now 1 }∧addI .i64 (runs σ L).now 1 = σ.now+1:=by
 obtain ⟨e1,e2,e3,e4,e5,e6⟩:=runs_eq L σ hL.1
 obtain ⟨r1,r2,r3⟩:=runs_iw h hL
 have h2:=h.now1
 have en:addI .i64 (runs σ L).now 1 = σ.now+1:=by rw [e2,addI_64 (by omega) (by omega)]
 have ht:=turned_ok (l:=(runs σ L).backs) (R:=σ.now) n h.now2 (by rw [e4]; exact h.back) (by rw [e4]; exact h.bnd)
 rw [en]
 refine ⟨?_,rfl⟩
 refine { toIw:={ r1 with now1:=?_,now2:=?_,len3:=by rw [ht.1]; exact r1.len3,back:=ht.2.1,bnd:=ht.2.2 },idle:=r2,fix:=by rw [show ({ runs σ L with backs:=turned (runs σ L).backs n,now:=σ.now+1 }:St).m = σ.m from e1]; exact r3 }
 ·show 0≤σ.now+1; omega
 ·show σ.now+1≤_; omega
theorem runs_jobs {σ : St} {L:List Nat} (hL:RunPl σ L):∀ p∈L,∃ x,(runs σ L).servs[p]? = some x∧x.jobs≠[]:=fun p hp=>by
 obtain ⟨x,hx,hm,hj,_⟩:=hL.2 p hp
 refine ⟨run1 x,?_,?_⟩
 ·rw [(runs_eq L σ hL.1).2.2.2.2.2,if_pos hp,hx]; rfl
 ·rw [run1_eq]
  show ranJobs x≠[]
  unfold ranJobs
  split
  ·exact hj
  ·split
   ·rename_i e; exact absurd e hj
   ·simp
theorem tick_iv {B:Int} {σ : St} (h:Iv B σ):Iv B (tick σ).1∧(tick σ).1.m = σ.m∧(tick σ).1.sems.length = σ.sems.length∧((tick σ).1.now=if σ.now < 4611686018427387904 then σ.now+1 else σ.now)∧((tick σ).2.2=if σ.now < 4611686018427387904 then 0 else 6):=by
 by_cases hn:σ.now < 4611686018427387904
 ·rw [tick_eq hn,if_pos hn,if_pos hn]
  simp only
  obtain ⟨s1,s2,s3⟩:=settle_iv h
  obtain ⟨s4,s5,s6,s7⟩:=settle_now h
  generalize (settle σ).1 = τ at s1 s2 s3 s4 s5 s6 s7
  have hL:=places_ok s1 s2
  obtain ⟨u1,u2⟩:=ran_iv s1 (by rw [s4]; exact hn) hL (backers τ).length
  obtain ⟨v1,v2,v3,v4,v5,v6⟩:=ends_iv (L:=(runners τ).map (at_ τ.servs)) u1 hL.1 (fun p hp=>runs_jobs hL p hp)
  obtain ⟨e1,e2,e3,e4,e5,e6⟩:=runs_eq _ τ hL.1
  refine ⟨v1,(v2.trans e1).trans s3,(v5.trans (by show (runs τ _).sems.length=_; rw [e3])).trans s6,(v3.trans u2).trans (by rw [s4]),trivial⟩
 ·unfold tick
  rw [show leI horizon σ.now=true from leI_true.2 (by show (4611686018427387904:Int)≤σ.now; omega),if_neg hn,if_neg hn]
  exact ⟨h,rfl,rfl,rfl,rfl⟩
theorem new_iv {m:Int} {most:List Int} (h:(new m most).2=0):Iv 0 (new m most).1∧new m most=(⟨m,0,[],most.map fun n=>⟨n,0,[],false⟩,[]⟩,0)∧1≤m∧m≤64∧most.length≤8∧∀ n∈most,1≤n∧n≤1048576:=by
 unfold new at h ⊢
 cases hc:(ltI m 1 || (ltI 64 m || (ltI 8 (lenI most.length) || most.any mOdd))) with
 | true=>rw [hc] at h; simp at h
 | false=>
  simp only [Bool.or_eq_false_iff,ltI_false,len_eq,List.any_eq_false] at hc
  obtain ⟨h1,h2,h3,h4⟩:=hc
  have h5:∀ n∈most,1≤n∧n≤1048576:=fun n hn=>by
   have:=h4 n hn
   unfold mOdd at this
   simp only [Bool.not_eq_true,Bool.or_eq_false_iff,ltI_false] at this
   exact this
  refine ⟨?_,rfl,h1,h2,by omega,h5⟩
  rw [cond_false]
  refine { m1:=h1,m2:=h2,now1:=Int.le_refl _,now2:=by simp,rise:=trivial,len1:=by simp,len2:=by simp; omega,len3:=by simp,serv:=fun x hx=>(by cases hx),num:=fun x hx=>(by cases hx),ran:=fun x hx=>(by cases hx),most:=fun l hl=>?_,lock:=fun q l hl=>?_,back:=fun b hb=>(by cases hb),bnd:=List.nodup_nil,idle:=fun x hx=>(by cases hx),fix:=by show ((0:Nat):Int)≤m; omega }
  ·obtain ⟨n,hn,rfl⟩:=List.mem_map.1 hl
   exact h5 n hn
  ·have hl:=List.mem_of_getElem? hl
   obtain ⟨n,hn,rfl⟩:=List.mem_map.1 hl
   exact ⟨List.nodup_nil,fun id=>⟨fun h=>(by cases h),fun h=>(by cases h)⟩,fun id=>⟨fun h=>absurd h.2.symm h.1,fun h=>(by cases h)⟩,fun _=>rfl⟩
theorem has_iff {l:List Serv} (hr:Rise l) {id:Int}:has l id=true↔∃ x∈l,x.id=id:=by
 unfold has
 constructor
 ·intro h
  split at h
  ·rename_i v hv; exact ⟨v,List.mem_of_getElem? hv,eqI_true.1 h⟩
  ·cases h
 ·rintro ⟨x,hx,rfl⟩
  rw [at_mem hr hx]
  exact eqI_true.2 rfl
theorem has_at {l:List Serv} (hr:Rise l) {id:Int} (h:has l id=true):∃ x,l[at_ l id]? = some x∧x.id=id:=by
 obtain ⟨x,hx,rfl⟩:=(has_iff hr).1 h
 exact ⟨x,at_mem hr hx,rfl⟩
theorem rise_take:∀ {l:List Serv} (n:Nat),Rise l→Rise (l.take n)
 | [],n,h=>by simp; exact trivial
 | x :: r,0,h=>trivial
 | x :: r,n+1,h=>⟨fun y hy=>h.1 y (List.mem_of_mem_take hy),rise_take n h.2⟩
theorem rise_drop:∀ {l:List Serv} (n:Nat),Rise l→Rise (l.drop n)
 | [],n,h=>by simp; exact trivial
 | x :: r,0,h=>h
 | x :: r,n+1,h=>rise_drop n h.2
theorem rise_append:∀ {l k:List Serv},Rise l→Rise k→(∀ x∈l,∀ y∈k,x.id < y.id)→Rise (l ++ k)
 | [],k,_,h,_=>h
 | x :: r,k,h,hk,hl=>⟨fun y hy=>by
   rcases List.mem_append.1 hy with h1 | h1
   ·exact h.1 y h1
   ·exact hl x (List.mem_cons_self ..) y h1,rise_append h.2 hk fun x hx=>hl x (List.mem_cons_of_mem _ hx)⟩
theorem rise_ins {l:List Serv} (hr:Rise l) {x:Serv} (hn:has l x.id=false):Rise (l.take (at_ l x.id) ++ x :: l.drop (at_ l x.id)):=by
 have h1:∀ y∈l.take (at_ l x.id),y.id < x.id:=fun y hy=>by
  obtain ⟨i,hi⟩:=List.getElem?_of_mem hy
  rw [List.getElem?_take] at hi
  split at hi
  ·rename_i hlt; exact at_lt hi hlt
  ·cases hi
 have h2:∀ y∈l.drop (at_ l x.id),x.id < y.id:=fun y hy=>by
  obtain ⟨i,hi⟩:=List.getElem?_of_mem hy
  rw [List.getElem?_drop] at hi
  have:=at_ge hr hi (Nat.le_add_right _ _)
  have hne:y.id≠x.id:=fun e=>by
   have:has l x.id=true:=(has_iff hr).2 ⟨y,List.mem_of_mem_drop hy,e⟩
   rw [hn] at this; cases this
  omega
 refine rise_append (rise_take _ hr) ⟨h2,rise_drop _ hr⟩ fun y hy z hz=>?_
 rcases List.mem_cons.1 hz with e | hz
 ·subst e; exact h1 y hy
 ·have:=h1 y hy; have:=h2 z hz; omega
theorem mem_ins {l:List Serv} {n:Nat} {x y:Serv}:y∈l.take n ++ x :: l.drop n↔y=x∨y∈l:=by
 rw [List.mem_append,List.mem_cons]
 constructor
 ·rintro (h | h | h)
  ·exact .inr (List.mem_of_mem_take h)
  ·exact .inl h
  ·exact .inr (List.mem_of_mem_drop h)
 ·rintro (h | h)
  ·exact .inr (.inl h)
  ·rw [← List.take_append_drop n l,List.mem_append] at h
   rcases h with h | h
   ·exact .inl h
   ·exact .inr (.inr h)
theorem LockOk.same {K K':List Key} {r:Nat} {l:Lock} (h:LockOk K r l) (hK:∀ z:Key,z.2.2=(r:Int)+1→(z∈K'↔z∈K)):LockOk K' r l:=
 ⟨h.nd,fun id=>by rw [hK _ rfl]; exact h.wait id,fun id=>by rw [hK _ rfl]; exact h.hold id,h.free⟩
theorem add_iv {B:Int} {σ : St} (h:Iv B σ) (hB:0≤B) (id q p:Int):Iv B (add σ id q p).1∧(add σ id q p).1.m = σ.m∧(add σ id q p).1.now = σ.now∧(add σ id q p).1.sems = σ.sems:=by
 unfold add
 cases h1:(ltI id 1 || ltI 255 id) with
 | true=>exact ⟨h,rfl,rfl,rfl⟩
 | false=>
  simp only [Bool.or_eq_false_iff,ltI_false] at h1
  cases h2:has σ.servs id with
  | true=>exact ⟨h,rfl,rfl,rfl⟩
  | false=>
   cases h3:leI 32 (lenI σ.servs.length) with
   | true=>exact ⟨h,rfl,rfl,rfl⟩
   | false=>
    have h3:=leI_false.1 h3
    simp only [len_eq] at h3
    cases h4:neI (cNew q p).2 0 with
    | true=>exact ⟨h,rfl,rfl,rfl⟩
    | false=>
     obtain ⟨c1,c2,c3⟩:=cNew_good (neI_false.1 h4)
     simp only [cond_false]
     refine ⟨?_,trivial,trivial,trivial⟩
     generalize hx:(⟨id,(cNew q p).1,[],0,0,0,0⟩:Serv)=x
     have e0:x.id=id:=by rw [← hx]
     have es:x.s=(cNew q p).1:=by rw [← hx]
     have ej:x.jobs=[]:=by rw [← hx]
     have esec:x.sec=0:=by rw [← hx]
     have en:x.num=0:=by rw [← hx]
     have er:x.ran=0:=by rw [← hx]
     have hs0:headSem x=0:=by unfold headSem; rw [ej]
     have hall:∀ {p:Serv→Prop},(∀ y∈σ.servs,p y)→p x→∀ y∈σ.servs.take (at_ σ.servs id) ++ x :: σ.servs.drop (at_ σ.servs id),p y:=fun ha hx y hy=>by
      rcases mem_ins.1 hy with e | hy
      ·rw [e]; exact hx
      ·exact ha y hy
     have hgood:GoodV σ.sems.length x:=⟨by rw [e0]; exact h1.1,by rw [e0]; exact h1.2,by rw [es]; exact c1,by rw [ej]; simp,fun j hj=>(by rw [ej] at hj; cases hj),fun j hj=>(by rw [ej] at hj; cases hj),.inl esec,fun _ hh=>(by rw [hs0] at hh; omega)⟩
     have hlen:(σ.servs.take (at_ σ.servs id) ++ x :: σ.servs.drop (at_ σ.servs id)).length = σ.servs.length+1:=by
      rw [List.length_append,List.length_cons,List.length_take,List.length_drop]
      have:=at_le σ.servs id
      omega
     refine { h with rise:=by rw [← e0] at h2 ⊢; exact rise_ins h.rise h2,len1:=by rw [hlen]; omega,serv:=hall h.serv hgood,num:=hall h.num (by rw [en]; omega),ran:=hall h.ran (by have:=h.now1; rw [er]; exact ⟨Int.le_refl _,this⟩),lock:=fun q' l hl=>?_,idle:=hall h.idle (by unfold Idl; rw [ej,es]; exact ⟨fun _=>c2,fun _=>rfl⟩),fix:=?_ }
     ·refine (h.lock q' l hl).same fun z hz=>?_
      rw [List.mem_map,List.mem_map]
      constructor
      ·rintro ⟨y,hy,e⟩
       rcases mem_ins.1 hy with e' | hy
       ·subst e'
        rw [key0 esec] at e
        rw [← e] at hz
        simp at hz; omega
       ·exact ⟨y,hy,e⟩
      ·rintro ⟨y,hy,e⟩
       exact ⟨y,mem_ins.2 (.inr hy),e⟩
     ·refine Int.le_trans (Int.ofNat_le.2 ?_) h.fix
      unfold fixed
      rw [fixed_eq,fixed_eq]
      show (σ.servs.take _ ++ x :: σ.servs.drop _).countP _≤_
      rw [List.countP_append,List.countP_cons]
      have:(eqI x.s.mode 1 && neI x.sec 0)=false:=by rw [esec,neI_false.2 rfl,Bool.and_false]
      rw [this]
      have e:=List.countP_append (p:=fun y:Serv=>(eqI y.s.mode 1 && neI y.sec 0)) (l₁:=σ.servs.take (at_ σ.servs id)) (l₂:=σ.servs.drop (at_ σ.servs id))
      rw [List.take_append_drop] at e
      rw [e]; simp
theorem release_iv {B:Int} {σ : St} (h:Iv B σ) (hB:B < 4611686018427387904) (id:Int) (p:List Step):Iv (B+1) (release σ id p).1∧(release σ id p).1.m = σ.m∧(release σ id p).1.now = σ.now∧(release σ id p).1.sems = σ.sems:=by
 have h0:Iv (B+1) σ:=h.mono (by omega)
 unfold release
 cases h1:has σ.servs id with
 | false=>exact ⟨h0,rfl,rfl,rfl⟩
 | true=>
  simp only [Bool.not_true,cond_false]
  cases h2:pFits p σ.sems.length with
  | false=>exact ⟨h0,rfl,rfl,rfl⟩
  | true=>
   simp only [Bool.not_true,cond_false]
   obtain ⟨x,hx,rfl⟩:=has_at h.rise h1
   rw [hx]
   simp only
   generalize at_ σ.servs x.id=i at hx
   cases h3:leI 8 (lenI x.jobs.length) with
   | true=>exact ⟨h0,rfl,rfl,rfl⟩
   | false=>
    have h3:=leI_false.1 h3
    simp only [len_eq] at h3
    simp only [cond_false]
    have hxm:=List.mem_of_getElem? hx
    have hg:=h.serv x hxm
    obtain ⟨n1,n2⟩:=h.num x hxm
    have en:addI .i64 x.num 1=x.num+1:=addI_64 (by omega) (by omega)
    obtain ⟨j1,j2⟩:=jNew_good (n:=x.num+1) h2 (by omega)
    rw [en,j1]
    simp only
    have hjobs:∀ j∈x.jobs ++ [(⟨x.num+1,p,0,0⟩:Job)],GoodJ σ.sems.length j:=fun j hj=>by
     rcases List.mem_append.1 hj with h | h
     ·exact hg.jobs j h
     ·rw [List.mem_singleton.1 h]; exact j2
    have hrest:∀ j∈(x.jobs ++ [(⟨x.num+1,p,0,0⟩:Job)]).tail,j.at_=0∧j.done=0:=fun j hj=>by
     cases hjs:x.jobs with
     | nil=>rw [hjs] at hj; simp at hj
     | cons y r=>
      rw [hjs] at hj
      simp only [List.cons_append,List.tail_cons,List.mem_append,List.mem_singleton] at hj
      rcases hj with h | h
      ·exact hg.rest j (by rw [hjs]; exact h)
      ·rw [h]; exact ⟨rfl,rfl⟩
    have hsame:x.jobs≠[]→headSem { x with num:=x.num+1,jobs:=x.jobs ++ [⟨x.num+1,p,0,0⟩] }=headSem x∧headDone { x with num:=x.num+1,jobs:=x.jobs ++ [⟨x.num+1,p,0,0⟩] }=headDone x:=fun hne=>by
     unfold headSem headDone
     cases hjs:x.jobs with
     | nil=>exact absurd hjs hne
     | cons y r=>exact ⟨rfl,rfl⟩
    cases h4:x.idle with
    | false=>
     have hm:x.s.mode≠0:=eqI_false.1 h4
     have hne:x.jobs≠[]:=fun e=>hm ((h.idle x hxm).1 e)
     obtain ⟨s1,s2⟩:=hsame hne
     simp only [Bool.not_false,cond_true]
     refine ⟨{ toIw:=h0.toIw.setS hx ?_ ?_ ⟨by show 0≤x.num+1; omega,by show x.num+1≤B+1; omega⟩ (h.ran x hxm),idle:=all_set h.idle ⟨fun e=>by simp at e,fun e=>absurd e hm⟩,fix:=Int.le_trans (Int.ofNat_le.2 (fixed_set hx (fun hb=>hb))) h.fix },trivial,trivial,trivial⟩
     ·unfold key; rw [s1]
     ·exact { hg with len:=by show (x.jobs ++ _).length≤8; simp; omega,jobs:=hjobs,rest:=hrest,sec:=by rw [s1]; exact hg.sec,done0:=by rw [s1,s2]; exact hg.done0 }
    | true=>
     have hm:x.s.mode=0:=eqI_true.1 h4
     have hje:=(h.idle x hxm).2 hm
     have hsec:x.sec=0:=by
      rcases hg.sec with e | ⟨_,e⟩
      ·exact e
      ·unfold headSem at e; rw [hje] at e; simp at e
     simp only [Bool.not_true,cond_false]
     cases h5:neI (cWake x.s σ.now).2 0 with
     | true=>exact ⟨h0,rfl,rfl,rfl⟩
     | false=>
      simp only [cond_false]
      obtain ⟨w1,w2⟩:=cWake_good hg.s h.now1 h.now2 (neI_false.1 h5)
      refine ⟨{ toIw:=h0.toIw.setS hx ?_ ?_ ⟨by show 0≤x.num+1; omega,by show x.num+1≤B+1; omega⟩ (h.ran x hxm),idle:=all_set h.idle ⟨fun e=>by simp at e,fun e=>absurd e w2⟩,fix:=Int.le_trans (Int.ofNat_le.2 (fixed_set hx (fun hb=>?_))) h.fix },trivial,trivial,trivial⟩
      ·exact (key0 (x:={ x with num:=x.num+1,jobs:=x.jobs ++ [⟨x.num+1,p,0,0⟩],s:=(cWake x.s σ.now).1 }) hsec).trans (key0 hsec).symm
      ·refine { hg with s:=w1,len:=by show (x.jobs ++ _).length≤8; simp; omega,jobs:=hjobs,rest:=hrest,sec:=.inl hsec,done0:=fun _ _=>?_ }
       unfold headDone
       simp only [hje,List.nil_append]
      ·have hb:(eqI (cWake x.s σ.now).1.mode 1 && neI x.sec 0)=true:=hb
       rw [hsec,neI_false.2 rfl,Bool.and_false] at hb; cases hb
end Go.AX.pm
namespace Go.AX
open Go
noncomputable section
section
variable {T:Tys} {wj wq:Nat→Kd} {m0 m m2 mo:Mem} {lam:Nat→Lb} {a1 a2 a3:Option Addr} {n1 c1 n2 c2 n3 c3:Nat} {ss:List SV} {js:Nat→List JV} {ls:List LV} {qs:Nat→List Int} {σ : pm.St}
theorem Ow.atB (h:Ow T wj wq m0 m lam a1 n1 c1 a2 n2 c2 a3 n3 c3 ss js ls qs σ) {i:Nat} {x:pm.Back} (hx:σ.backs[i]? = some x) :
  ∃ b o,a3=some ⟨b,o,none⟩∧lam b = .bk∧∀ k u,(encB x)[k]? = some u→rd m b (o+Int.toNat (i:Int)*2+k)=some u:=by
 obtain ⟨b,o,e,hc⟩:=(h.s3.arr encB_len h.s3n).2 i x hx
 exact ⟨b,o,e,h.s3l b (by rw [e]; simp [blk]),fun k u hu=>by rw [Int.toNat_natCast]; exact hc k u hu⟩
theorem Ow.setB (h:Ow T wj wq m0 m lam a1 n1 c1 a2 n2 c2 a3 n3 c3 ss js ls qs σ) {b o i k:Nat} {x x':pm.Back} {vs:List Value} (hx:σ.backs[i]? = some x) (hab:a3=some ⟨b,o,none⟩) (hk:k+vs.length≤2) (he:over (encB x) k vs=encB x') :
  okW m b (o+Int.toNat (i:Int)*2+k) vs.length∧Ow T wj wq m0 (wr m b (o+Int.toNat (i:Int)*2+k) vs) lam a1 n1 c1 a2 n2 c2 a3 n3 c3 ss js ls qs { σ with backs:=σ.backs.set i x' }:=by
 have hw:=h.keep.wf
 obtain ⟨b',o',e,hok,hc⟩:=h.s3.set encB_len (by omega) h.s3n hx hk he (by have:=h.keep.fl; have:=h.fl0; omega)
 rw [hab] at e; cases e
 refine ⟨hok,?_⟩
 have hlb:lam b = .bk:=h.s3l b (by rw [hab]; simp [blk])
 have hnb:m0.nx≤b:=h.new b (by rw [hlb]; simp)
 have f:Fr m (wr m b (o+Int.toNat (i:Int)*2+k) vs) [b]:=(Fr.refl m _).wr (.inl (by simp))
 have ne:∀ {b':Nat} {L:Lb},lam b'=L→L≠.bk→b'∉[b]:=fun e hn hs=>hn (by rw [← e,List.mem_singleton.1 hs,hlb])
 have nb:∀ b'∈[b],lam b'≠.pr:=fun b' hb'=>by rw [List.mem_singleton.1 hb',hlb]; simp
 refine { h with keep:=h.keep.wr hnb,lab:=fun b hb=>by simpa using h.lab b hb,s3:=hc,s3n:=by show (σ.backs.set i x').length=n3; rw [List.length_set]; exact h.s3n,s1:=h.s1.fr hw f (fun b hb=>ne (h.s1l b hb) (by simp)),s2:=h.s2.fr hw f (fun b hb=>ne (h.s2l b hb) (by simp)),jb:=fun k u hu=>?_,qu:=fun k u hu=>?_,ds:=fun j u x hu hx=>?_ }
 ·exact (h.jb k u hu).fr hw f nb (fun b' hb'=>by rw [List.mem_singleton.1 hb',hlb]; simp)
 ·exact (h.qu k u hu).fr hw f nb (fun b' hb'=>by rw [List.mem_singleton.1 hb',hlb]; simp)
 ·obtain ⟨p,q⟩:=h.ds j u x hu hx
  exact ⟨p,q.imp fun _ _ r=>r.fr hw f nb⟩
theorem Ow.newB (h:Ow T wj wq m0 m lam a1 n1 c1 a2 n2 c2 a3 n3 c3 ss js ls qs σ) {a':Option Addr} {n' c':Nat} {l':List pm.Back} (k:Keep m m2) (ho:OwnSl mo m2 T.B a' n' c' (l'.flatMap encB)) (hn:m.nx≤mo.nx) (hl:l'.length=n') :
  ∃ lam',Ow T wj wq m0 m2 lam' a1 n1 c1 a2 n2 c2 a' n' c' ss js ls qs { σ with backs:=l' }∧(∀ b,lam b≠.no→lam' b=lam b)∧(∀ b,b < m.nx→lam' b=lam b):=by
 have h2:=h.then k
 have hbl:∀ b∈blk a',m.nx≤b∧b < m2.nx:=fun b hb=>⟨Nat.le_trans hn (ho.blk b hb),ho.lt k.wf b hb⟩
 have hnx:=h.keep.nx
 have key:∀ lam',(∀ b∈blk a',lam' b = .bk)→Ow T wj wq m0 m2 lam' a1 n1 c1 a2 n2 c2 a3 n3 c3 ss js ls qs σ→Ow T wj wq m0 m2 lam' a1 n1 c1 a2 n2 c2 a' n' c' ss js ls qs { σ with backs:=l' }:=fun lam' hl' h'=>
  { h' with s3:=(ho.csl true).old (Nat.le_trans hnx hn),s3l:=hl',s3n:=hl }
 cases a' with
 | none=>exact ⟨lam,key lam (fun b hb=>by cases hb) h2,fun b _=>rfl,fun b _=>rfl⟩
 | some ad=>
  obtain ⟨q1,q2⟩:=hbl ad.block (by simp [blk])
  have hno:lam ad.block = .no:=h.noNew q1
  refine ⟨upF lam ad.block .bk,key _ (fun b hb=>?_) (h2.own hno q2),fun b hb=>?_,fun b hb=>?_⟩
  ·simp [blk] at hb; subst hb; exact upF_self ..
  ·rw [upF_ne]; intro e; subst e; exact hb hno
  ·rw [upF_ne]; intro e; omega
theorem Ow.apartS {cx:Cx} {m':Mem} {S:List Nat} (h:Ow T wj wq m0 m lam a1 n1 c1 a2 n2 c2 a3 n3 c3 ss js ls qs σ) (f:Fr m m' S) (hS:∀ b∈S,lam b = .sv) (hz:sizeT cx T.B=some 2) :
  All2 (RdServ m') ss σ.servs∧(∃ ls,Arr encL 4 m' a2 n2 ls∧All2 (RdLock m') ls σ.sems)∧Arr encB 2 m' a3 n3 σ.backs∧Cut cx m' a3 n3 c3 2:=by
 have hw:=h.keep.wf
 have ne:∀ {b:Nat} {L:Lb},lam b=L→L≠.sv→b∉S:=fun e hn hs=>hn (by rw [← e,hS _ hs])
 have nb:∀ b'∈S,lam b'≠.pr:=fun b' hb'=>by rw [hS b' hb']; simp
 have h3:=h.s3.fr hw f (fun b hb=>ne (h.s3l b hb) (by simp))
 refine ⟨All2.of (by rw [h.s1n,h.s1d]) fun i v x hv hx=>?_,⟨ls,(h.s2.fr hw f (fun b hb=>ne (h.s2l b hb) (by simp))).arr encL_len h.s2n,All2.of (by rw [h.s2n,h.s2d]) fun k v l hv hl=>?_⟩,h3.arr encB_len h.s3n,⟨by rw [h.s3.cap]; exact Nat.le_refl _,?_⟩⟩
 ·obtain ⟨p,q⟩:=h.ds i v x hv hx
  exact ⟨p.id,p.s,p.sec,p.held,p.num,p.ran,js i,((h.jb i v hv).fr hw f nb (fun b' hb'=>by rw [hS b' hb']; simp)).arr encJ_len,q.imp fun _ _ r=>let r:=r.fr hw f nb; ⟨r.num,r.at_,r.done,r.prog⟩⟩
 ·obtain ⟨p,q⟩:=h.dl k v l hv hl
  exact ⟨p.most,p.holder,p.dead,by rw [← q]; exact ((h.qu k v hv).fr hw f nb (fun b' hb'=>by rw [hS b' hb']; simp)).arr encI_len⟩
 ·generalize σ.backs.flatMap encB=L at h3
  cases h3 with
  | nil=>exact .inl rfl
  | empty b cc h1 h2=>exact .inr ⟨b,0,_,rfl,h2,by unfold sameSize; rw [h2]⟩
  | row b n pre l hw h1 h2=>
   obtain ⟨c',h3,_⟩:=id h2
   exact .inr ⟨b,_,_,rfl,h3,h2.sameSize hz⟩
end
end
end Go.AX
namespace Go.AX.pm
open Go.AX
noncomputable section
structure Act where
 op:Int
 who:Int
 q:Int
 p:Int
 n:Int
 steps:List Step
end
end Go.AX.pm
namespace Go.AX.pm
open Go.AX
theorem quo_up {a p:Int} (ha:0≤a) (hp:1≤p):a < (a.tdiv p+1)*p∧(a.tdiv p+1)*p≤a+p∧0≤a.tdiv p∧a.tdiv p≤a:=by
 have h1:a.tdiv p=a / p:=Int.tdiv_eq_ediv_of_nonneg ha
 rw [h1]
 have h2:=Int.emod_nonneg a (show p≠0 by omega)
 have h3:=Int.emod_lt_of_pos a (show 0 < p by omega)
 have h4:=Int.mul_ediv_add_emod a p
 have h5:(a / p+1)*p=p*(a / p)+p:=by rw [Int.add_mul,Int.mul_comm]; simp
 have h6:0≤a / p:=Int.ediv_nonneg ha (by omega)
 have h7:a / p≤a:=Int.ediv_le_self _ ha
 rw [h5]
 refine ⟨by omega,by omega,h6,h7⟩
theorem tUp_lt {t d p r:Int} (hp:1≤p) (hp2:p≤2147483648) (h:tUp t d p=(r,true)):t < r:=by
 unfold tUp at h
 cases hg:tGood t && (tGood d && tIn p 1 2147483648) with
 | false=>rw [hg] at h; simp at h
 | true=>
  rw [hg,cond_true] at h
  simp only [Bool.and_eq_true] at hg
  have ht:=tGood_iff.1 hg.1
  have hd:=tGood_iff.1 hg.2.1
  cases hl:ltI t d with
  | true=>rw [hl,cond_true] at h; cases h; exact ltI_true.1 hl
  | false=>
   rw [hl,cond_false] at h
   rw [ltI_false] at hl
   obtain ⟨q1,q2,q3,q4⟩:=quo_up (a:=t - d) (p:=p) (by omega) hp
   have e1:subI .i64 t d=t - d:=subI_64 (by omega) (by omega)
   have e2:quoI .i64 (t - d) p=(t - d).tdiv p:=wrapI_64 (by omega) (by omega)
   have e3:addI .i64 ((t - d).tdiv p) 1=(t - d).tdiv p+1:=addI_64 (by omega) (by omega)
   have e4:mulI .i64 ((t - d).tdiv p+1) p=((t - d).tdiv p+1)*p:=mulI_64 (by omega) (by omega)
   have e5:addI .i64 d (((t - d).tdiv p+1)*p)=d+((t - d).tdiv p+1)*p:=addI_64 (by omega) (by omega)
   rw [e1,e2,e3,e4,e5] at h
   unfold tgood at h
   cases hz:tGood (d+((t - d).tdiv p+1)*p) with
   | false=>rw [hz] at h; simp at h
   | true=>
    rw [hz,cond_true] at h
    cases h
    omega
theorem cTurn_twice {s:Srv} {now:Int} (h:CF s):cTurn (cTurn s now).1 now=((cTurn s now).1,false):=by
 cases hb:(cTurn s now).2 with
 | false=>
  rw [cTurn_no hb]
  exact Prod.ext (cTurn_no hb) hb
 | true=>
  unfold cTurn at hb
  rw [cGood_iff.2 h] at hb
  cases h1:(!true || (eqI s.mode 0 || ltI now s.due)) with
  | true=>rw [h1] at hb; simp at hb
  | false=>
   rw [h1,cond_false] at hb
   cases h2:(tUp now s.due s.p).2 with
   | false=>rw [h2] at hb; simp at hb
   | true=>
    have e:(cTurn s now).1=cReady { s with bud:=s.q,due:=(tUp now s.due s.p).1 }:=by
     unfold cTurn
     rw [cGood_iff.2 h,h1,cond_false,h2]; rfl
    have hlt:=tUp_lt (r:=(tUp now s.due s.p).1) h.p1 h.p2 (by rw [← h2])
    rw [e]
    have hd:(cReady { s with bud:=s.q,due:=(tUp now s.due s.p).1 }).due=(tUp now s.due s.p).1:=by
     unfold cReady
     cases eqI s.q 0 <;> rfl
    unfold cTurn
    rw [hd,ltI_true.2 hlt,Bool.or_true,Bool.or_true]; rfl
def Turned (now:Int) (x:Serv):Prop:=turn1 now x=(x,false)
theorem turn1_turned {k:Nat} {now:Int} {x:Serv} (h:GoodV k x):Turned now (turn1 now x).1:=by
 unfold Turned
 unfold turn1
 cases hc:(x.idle || neI x.sec 0) with
 | true=>simp only [cond_true]; rw [hc]; rfl
 | false=>
  simp only [cond_false]
  cases hc2:(({ x with s:=(cTurn x.s now).1 }:Serv).idle || neI x.sec 0) with
  | true=>rfl
  | false=>simp only [cond_false]; rw [cTurn_twice h.s]
theorem Turned.sec {now:Int} {x:Serv} (h:x.sec≠0):Turned now x:=by
 unfold Turned turn1
 rw [neI_true.2 h,Bool.or_true]; rfl
theorem Turned.wait {k:Nat} {now:Int} {x:Serv} (hg:GoodV k x) (h:Turned now x) (hm:x.s.mode=1):Turned now { x with s:=(cWait x.s).1 }:=by
 have hw:=cWait_good hg.s hm
 unfold Turned turn1 at h ⊢
 cases hs:neI x.sec 0 with
 | true=>simp [Bool.or_true]
 | false=>
  have hi:x.idle=false:=by unfold Serv.idle; rw [hm]; exact eqI_false.2 (by decide)
  rw [hi,hs] at h
  simp only [Bool.or_false,cond_false,Prod.mk.injEq] at h
  have hi2:({ x with s:=(cWait x.s).1 }:Serv).idle=false:=by
   unfold Serv.idle cWait
   rw [cGood_iff.2 hg.s]
   cases hne:neI x.s.mode 1 with
   | true=>exact absurd hm (neI_true.1 hne)
   | false=>exact eqI_false.2 (show (2:Int)≠0 by decide)
  rw [hi2]
  simp only [Bool.or_false,cond_false]
  have e:(cTurn (cWait x.s).1 now).2=false:=by
   have ew:(cWait x.s).1 = { x.s with mode:=2 }:=by
    unfold cWait
    rw [cGood_iff.2 hg.s]
    cases hne:neI x.s.mode 1 with
    | true=>exact absurd hm (neI_true.1 hne)
    | false=>rfl
   have h2:=h.2
   have hg2:cGood (cWait x.s).1=true:=cGood_iff.2 hw.1
   rw [ew] at hg2 ⊢
   unfold cTurn at h2 ⊢
   rw [cGood_iff.2 hg.s] at h2
   rw [hg2]
   have em:eqI x.s.mode 0=false:=eqI_false.2 (by omega)
   rw [em] at h2
   simp only [Bool.not_true,Bool.false_or] at h2 ⊢
   rw [show eqI (2:Int) 0=false from eqI_false.2 (by decide)]
   simp only [Bool.false_or]
   cases hl:ltI now x.s.due with
   | true=>rfl
   | false=>
    rw [hl] at h2
    simp only [cond_false] at h2 ⊢
    cases ht:(tUp now x.s.due x.s.p).2 with
    | false=>rfl
    | true=>rw [ht] at h2; simp at h2
  rw [cTurn_no e,e]
theorem turned_all {σ : St} (h:∀ x∈σ.servs,Turned σ.now x):turnS σ = σ∧turnE σ = []:=by
 have e:σ.servs.map (fun v=>(turn1 σ.now v).1) = σ.servs:=by
  refine (List.map_congr_left fun x hx=>?_).trans (List.map_id _)
  rw [h x hx]; rfl
 refine ⟨?_,?_⟩
 ·unfold turnS; rw [e]
 ·unfold turnE
  rw [List.filterMap_eq_nil_iff]
  intro x hx
  rw [h x hx]; rfl
theorem refuse_turned {B:Int} {σ σ':St} {e:Ev} (h:Iv B σ) (ht:∀ x∈σ.servs,Turned σ.now x) (hr:refuse σ = some (σ',e)):(∀ x∈σ'.servs,Turned σ'.now x)∧σ'.now = σ.now:=by
 obtain ⟨p,hp,v,k,h1,h2,_,rfl,_⟩:=refuseIn_some hr
 obtain ⟨x,a,b,c,_⟩:=asks_mem h hp
 rw [h1] at a; cases a
 have hx:=List.mem_of_getElem? h1
 exact ⟨all_set ht ((ht _ hx).wait (h.serv _ hx) c),rfl⟩
theorem refuses_turned {B:Int}:∀ (n:Nat) {σ : St},Iv B σ→(∀ x∈σ.servs,Turned σ.now x)→(∀ x∈(refuses n σ).1.servs,Turned (refuses n σ).1.now x)
 | 0,_,_,ht=>ht
 | n+1,σ,h,ht=>by
  unfold refuses
  cases hr:refuse σ with
  | none=>exact ht
  | some p=>
   obtain ⟨σ',e⟩:=p
   obtain ⟨a,b⟩:=refuse_turned h ht hr
   exact refuses_turned n (refuse_iv h hr).1 a
theorem settle_turned {B:Int} {σ : St} (h:Iv B σ):∀ x∈(settle σ).1.servs,Turned (settle σ).1.now x:=by
 have h1:=turnS_iv h
 have t1:∀ x∈(turnS σ).servs,Turned (turnS σ).now x:=by
  intro x hx
  obtain ⟨y,hy,rfl⟩:=List.mem_map.1 hx
  exact turn1_turned (h.serv y hy)
 have t2:=refuses_turned (σ.servs.length+1) h1 t1
 have h2:=refuses_iv (σ.servs.length+1) h1
 show ∀ x∈(grants (refuses (σ.servs.length+1) (turnS σ)).1 (asks (refuses (σ.servs.length+1) (turnS σ)).1)).1.servs,Turned (grants (refuses (σ.servs.length+1) (turnS σ)).1 (asks (refuses (σ.servs.length+1) (turnS σ)).1)).1.now x
 generalize (refuses (σ.servs.length+1) (turnS σ)).1 = τ at t2 h2
 obtain ⟨_,g2,_⟩:=grants_iv h2
 have ha:=granted_all h2 g2
 intro x' hx'
 obtain ⟨i,hi⟩:=List.getElem?_of_mem hx'
 obtain ⟨x,hx,hR⟩:=ha.get' hi
 rcases hR.2.2.2.2.2 with e | ⟨_,_,h5,_⟩
 ·subst e
  rw [g2.now]
  exact t2 _ (List.mem_of_getElem? hx)
 ·exact Turned.sec h5
theorem asks_none {B:Int} {σ : St} (h:Iv B σ) (ha:Asked σ):asks σ = []:=by
 rw [List.eq_nil_iff_forall_not_mem]
 intro p hp
 obtain ⟨x,a,b,_,c,d,e,_⟩:=asks_mem h hp
 have:=ha x (List.mem_of_getElem? a) b c
 omega
theorem settle_still {B:Int} {σ : St} (h:Iv B σ) (ha:Asked σ) (ht:∀ x∈σ.servs,Turned σ.now x):settle σ = (σ,[]):=by
 obtain ⟨e1,e2⟩:=turned_all ht
 have e3:=asks_none h ha
 have e4:refuses (σ.servs.length+1) σ = (σ,[]):=by
  unfold refuses refuse
  rw [e3]; rfl
 unfold settle
 simp only [e1,e2,e4,e3]
 rfl
theorem settle_settle {B:Int} {σ : St} (h:Iv B σ):settle (settle σ).1=((settle σ).1,[]):=
 settle_still (settle_iv h).1 (settle_iv h).2.1 (settle_turned h)
theorem tick_settle {B:Int} {σ : St} (h:Iv B σ) (hn:σ.now < 4611686018427387904):(tick σ).1=(tick (settle σ).1).1∧(tick σ).2.1=(settle σ).2 ++ (tick (settle σ).1).2.1∧(tick σ).2.2=0∧(tick (settle σ).1).2.2=0:=by
 have hn2:(settle σ).1.now < 4611686018427387904:=by rw [(settle_now h).1]; exact hn
 rw [tick_eq hn,tick_eq hn2]
 simp only [settle_settle h]
 exact ⟨trivial,by simp,trivial,trivial⟩
end Go.AX.pm
