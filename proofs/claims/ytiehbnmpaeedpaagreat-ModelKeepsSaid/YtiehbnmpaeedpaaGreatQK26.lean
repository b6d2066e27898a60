import Derived.Test.YtiehbnmpaeedpaaGreatQK25
import Derived.Test.YtiehbnmpaeedpaaGreatQK24
set_option linter.unusedSimpArgs false
set_option linter.unusedVariables false
set_option linter.unusedSectionVars false
namespace Go.AX.pm
open Go.AX
noncomputable def fB (x : Serv) (J : List Job) : Serv := match J with
  | [] => { x with sec := 0, jobs := [], s := (ge x.s).1 }
  | j :: r => { x with sec := 0, jobs := j :: r }
theorem wi {σ : St} {i q : Nat} {x a b : Serv} {l : Lock} (t : Bool) (hx : σ.servs[i]? = some x) (ha : a.id = x.id) (hb : b.id = x.id) (hl : σ.sems[q]? = some l) (hne : ∀ y r, l.queue = y :: r → at_ σ.servs y ≠ i ∧ ∃ v, σ.servs[at_ σ.servs y]? = some v) :
    ({ (free { σ with servs := σ.servs.set i a } ((q : Int) + 1) t).1 with servs := (free { σ with servs := σ.servs.set i a } ((q : Int) + 1) t).1.servs.set i b } : St) = (free { σ with servs := σ.servs.set i b } ((q : Int) + 1) t).1 ∧
    (free { σ with servs := σ.servs.set i a } ((q : Int) + 1) t).1.servs[i]? = some a ∧ (free { σ with servs := σ.servs.set i a } ((q : Int) + 1) t).2 = (free { σ with servs := σ.servs.set i b } ((q : Int) + 1) t).2 := by
  have hi := (List.getElem?_eq_some_iff.1 hx).1
  cases hq : l.queue with
  | nil =>
    rw [rK (σ := { σ with servs := σ.servs.set i a }) t hl hq, rK (σ := { σ with servs := σ.servs.set i b }) t hl hq]
    refine ⟨?_, ?_, rfl⟩
    · simp only [List.set_set]
    · show (σ.servs.set i a)[i]? = _
      rw [List.getElem?_set, if_pos rfl, if_pos hi]
  | cons y r =>
    obtain ⟨h1, v, hv⟩ := hne y r hq
    have ea : at_ (σ.servs.set i a) y = at_ σ.servs y := lG (il hx ha) y
    have eb : at_ (σ.servs.set i b) y = at_ σ.servs y := lG (il hx hb) y
    have va : (σ.servs.set i a)[at_ (σ.servs.set i a) y]? = some v := by rw [ea, List.getElem?_set, if_neg (fun h => h1 h.symm)]; exact hv
    have vb : (σ.servs.set i b)[at_ (σ.servs.set i b) y]? = some v := by rw [eb, List.getElem?_set, if_neg (fun h => h1 h.symm)]; exact hv
    rw [rM (σ := { σ with servs := σ.servs.set i a }) t hl hq va, rM (σ := { σ with servs := σ.servs.set i b }) t hl hq vb]
    simp only [ea, eb]
    refine ⟨?_, ?_, rfl⟩
    · congr 1
      rw [List.set_comm _ _ (fun h => h1 h), List.set_set]
    · rw [List.getElem?_set, if_neg h1, List.getElem?_set, if_pos rfl, if_pos hi]
theorem tQ {σ : St} {i : Nat} {x : Serv} (hx : σ.servs[i]? = some x) : (kU σ i).1 = match x.jobs with
    | [] => { σ with servs := σ.servs.set i { x with s := (ge x.s).1 } }
    | _ :: _ => σ := by
  unfold kU
  rw [hx]
  simp only
  cases x.jobs <;> rfl
noncomputable def after (j : Job) (r : List Job) : List Job := if j.at_ + 1 = j.prog.length then r else { j with at_ := j.at_ + 1, done := 0 } :: r
theorem HI {B R : Int} {σ : St} (h : Iw B R σ) {i : Nat} {x : Serv} {j : Job} {r : List Job} (hx : σ.servs[i]? = some x) (hjs : x.jobs = j :: r) :
    (j.done ≠ j.cur.2 ∧ (∀ q l, x.sec = 2 → headSem x = ((q : Nat) : Int) + 1 → σ.sems[q]? = some l → x.held ≠ l.most) ∧ (gp σ i).1 = σ) ∨
    (j.done = j.cur.2 ∧ x.sec = 0 ∧ headSem x ≤ 0 ∧ (gp σ i).1 = { σ with servs := σ.servs.set i (fB x (after j r)) }) ∨
    (∃ q l, x.sec = 2 ∧ headSem x = ((q : Nat) : Int) + 1 ∧ σ.sems[q]? = some l ∧ l.holder = x.id ∧ key x = (x.id, 2, (q : Int) + 1) ∧
      ((j.done = j.cur.2 ∧ (gp σ i).1 = (free { σ with servs := σ.servs.set i (fB x (after j r)) } ((q : Int) + 1) false).1) ∨
       (j.done ≠ j.cur.2 ∧ x.held = l.most ∧ (gp σ i).1 = (free { σ with servs := σ.servs.set i (fB x r) } ((q : Int) + 1) true).1))) := by
  have hxm := List.mem_of_getElem? hx
  have hg := h.serv x hxm
  have hgj := hg.jobs j (by rw [hjs]; exact List.mem_cons_self ..)
  have hst := hgj.step
  have hsem : headSem x = j.cur.1 := by unfold headSem; rw [hjs]
  have hi := (List.getElem?_eq_some_iff.1 hx).1
  have hset : ∀ (s : List Serv) (a b : Serv), (s.set i a).set i b = s.set i b := fun s a b => List.set_set ..
  have hnx : j.done = j.cur.2 → (bif dO (fa j).1.at_ (aQ j.prog.length) then r else (fa j).1 :: r) = after j r := fun hd => by
    obtain ⟨e, _⟩ := zt hgj hd
    unfold after
    rw [e]
    by_cases hl : j.at_ + 1 = j.prog.length
    · rw [if_pos hl, show dO (j.at_ + 1) (aQ j.prog.length) = true from eP.2 hl]; rfl
    · rw [if_neg hl, show dO (j.at_ + 1) (aQ j.prog.length) = false from fU.2 hl]; rfl
  have hfin : ∀ J : List Job, fB x J = (match J with | [] => { ({ x with sec := 0, jobs := J } : Serv) with s := (ge x.s).1 } | _ :: _ => { x with sec := 0, jobs := J }) := fun J => by
    unfold fB; cases J <;> rfl
  have wait : ∀ (q : Nat) (l : Lock), σ.sems[q]? = some l → l.holder = x.id → key x = (x.id, 2, (q : Int) + 1) → ∀ y r', l.queue = y :: r' → at_ σ.servs y ≠ i ∧ ∃ v, σ.servs[at_ σ.servs y]? = some v := fun q l hl hh hk y r' hq => by
    obtain ⟨v, hv, hvid, hvs, _⟩ := qq h hl (y := y) (by rw [hq]; exact List.mem_cons_self ..)
    refine ⟨fun e => ?_, v, hv⟩
    rw [e, hx] at hv; cases hv
    have := congrArg (·.2.1) hk
    unfold key at this
    simp at this; omega
  obtain ⟨i1, i2, i3, i4, i5, i6, i7⟩ := x
  simp only at hjs hsem hfin
  subst hjs
  by_cases hd : j.done = j.cur.2
  · have he : dO j.done j.cur.2 = true := eP.2 hd
    by_cases hs : i4 = 2
    · subst hs
      obtain ⟨q, l, q1, q2, q3, q4, _⟩ := sN h hx rfl
      have hq1 : j.cur.1 = (q : Int) + 1 := by rw [← hsem]; exact q1
      refine .inr (.inr ⟨q, l, rfl, q1, q2, q3, q4, .inl ⟨hd, ?_⟩⟩)
      obtain ⟨c1, c2, _⟩ := wi (a := ⟨i1, i2, j :: r, 0, i5, i6, i7⟩) (b := ⟨i1, i2, after j r, 0, i5, i6, i7⟩) false hx rfl rfl q2 (wait q l q2 q3 q4)
      obtain ⟨d1, d2, _⟩ := wi (a := ⟨i1, i2, after j r, 0, i5, i6, i7⟩) (b := fB ⟨i1, i2, j :: r, 2, i5, i6, i7⟩ (after j r)) false hx rfl (by rw [hfin]; cases after j r <;> rfl) q2 (wait q l q2 q3 q4)
      have e1 : (iv σ i).1 = (free { σ with servs := σ.servs.set i ⟨i1, i2, after j r, 0, i5, i6, i7⟩ } ((q : Int) + 1) false).1 := by
        unfold iv
        rw [hx]
        simp only [hst, he, cond_true, hq1, show dO 2 2 = true from eP.2 rfl]
        rw [c2, ← c1, ← hnx hd]
        simp only
        cases dO (fa j).1.at_ (aQ j.prog.length) <;> rfl
      show (kU (iv σ i).1 i).1 = _
      rw [e1, tQ d2]
      simp only
      rw [hfin] at d1 ⊢
      cases hJ : after j r with
      | nil => rw [hJ] at d1; exact d1
      | cons j' r' => rfl
    · have h0 : i4 = 0 ∧ j.cur.1 ≤ 0 := by
        have hd0 := hg.done0 hs
        have c1 := hgj.cur.2.2.1
        have : ¬ (1 ≤ j.cur.1) := fun h1 => by
          have := hd0 (by rw [hsem]; exact h1)
          unfold headDone at this
          simp at this; omega
        rcases hg.sec with e | ⟨_, e⟩
        · exact ⟨e, by omega⟩
        · rw [hsem] at e; exact absurd e this
      obtain ⟨h0, hc0⟩ := h0
      subst h0
      refine .inr (.inl ⟨hd, rfl, by rw [hsem]; exact hc0, ?_⟩)
      have e1 : (iv σ i).1 = { σ with servs := σ.servs.set i ⟨i1, i2, after j r, 0, i5, i6, i7⟩ } := by
        unfold iv
        rw [hx]
        simp only [hst, he, cond_true, show dO 0 2 = false from fU.2 (by omega), cond_false]
        rw [hx, ← hnx hd]
        simp only
        cases dO (fa j).1.at_ (aQ j.prog.length) <;> rfl
      show (kU (iv σ i).1 i).1 = _
      rw [e1, tQ (x := ⟨i1, i2, after j r, 0, i5, i6, i7⟩) (by show (σ.servs.set i _)[i]? = _; rw [List.getElem?_set, if_pos rfl, if_pos hi])]
      simp only
      rw [hfin]
      cases hJ : after j r with
      | nil => simp only [hset]
      | cons j' r' => rfl
  · have he : dO j.done j.cur.2 = false := fU.2 hd
    by_cases hs : i4 = 2
    · subst hs
      obtain ⟨q, l, q1, q2, q3, q4, _⟩ := sN h hx rfl
      have hq1 : j.cur.1 = (q : Int) + 1 := by rw [← hsem]; exact q1
      by_cases hh : i5 = l.most
      · refine .inr (.inr ⟨q, l, rfl, q1, q2, q3, q4, .inr ⟨hd, hh, ?_⟩⟩)
        obtain ⟨d1, d2, _⟩ := wi (a := ⟨i1, i2, r, 0, i5, i6, i7⟩) (b := fB ⟨i1, i2, j :: r, 2, i5, i6, i7⟩ r) true hx rfl (by rw [hfin]; cases r <;> rfl) q2 (wait q l q2 q3 q4)
        have e1 : (iv σ i).1 = (free { σ with servs := σ.servs.set i ⟨i1, i2, r, 0, i5, i6, i7⟩ } ((q : Int) + 1) true).1 := by
          unfold iv
          rw [hx]
          simp only [hst, he, cond_false, hq1, show dO 2 2 = true from eP.2 rfl, show ((q : Int) + 1 - 1).toNat = q by omega, q2, show dO i5 l.most = true from eP.2 hh, Bool.and_self, cond_true]
        show (kU (iv σ i).1 i).1 = _
        rw [e1, tQ d2]
        simp only
        rw [hfin] at d1 ⊢
        cases hJ : r with
        | nil => rw [hJ] at d1; exact d1
        | cons j' r' => rfl
      · refine .inl ⟨hd, fun q' l' _ hq' hl' => ?_, ?_⟩
        · have : q' = q := by have : (q' : Int) + 1 = q + 1 := by rw [← hq', ← q1]
                              omega
          subst this
          rw [q2] at hl'; cases hl'; exact hh
        · have e1 : (iv σ i).1 = σ := by
            unfold iv
            rw [hx]
            simp only [hst, he, cond_false, hq1, show ((q : Int) + 1 - 1).toNat = q by omega, q2, show dO i5 l.most = false from fU.2 hh, Bool.and_false]
          show (kU (iv σ i).1 i).1 = _
          rw [e1, tQ hx]
    · refine .inl ⟨hd, fun q l e => absurd e hs, ?_⟩
      have e1 : (iv σ i).1 = σ := by
        unfold iv
        rw [hx]
        simp only [hst, he, cond_false, show dO i4 2 = false from fU.2 hs, Bool.false_and]
      show (kU (iv σ i).1 i).1 = _
      rw [e1, tQ hx]
theorem tR (x : Serv) (J : List Job) : (fB x J).id = x.id ∧ (fB x J).sec = 0 ∧ (fB x J).jobs = J ∧ (fB x J).num = x.num ∧ (fB x J).ran = x.ran := by
  unfold fB; cases J <;> exact ⟨rfl, rfl, rfl, rfl, rfl⟩
theorem yw {k : Nat} {x : Serv} {j : Job} {r J : List Job} (h : GoodV k x) (hjs : x.jobs = j :: r) (hi : Idl x) (hJ : J = r ∨ (j.done = j.cur.2 ∧ J = after j r)) : GoodV k (fB x J) ∧ Idl (fB x J) := by
  have hgj := h.jobs j (by rw [hjs]; exact List.mem_cons_self ..)
  have hlen := h.len
  rw [hjs] at hlen
  simp at hlen
  have hm : x.s.mode ≠ 0 := fun e => by have := hi.2 e; rw [hjs] at this; cases this
  have hr : ∀ y ∈ r, y.at_ = 0 ∧ y.done = 0 := fun y hy => h.rest y (by rw [hjs]; exact hy)
  have key : (∀ y ∈ J, GoodJ k y) ∧ J.length ≤ 8 ∧ (∀ y ∈ J.tail, y.at_ = 0 ∧ y.done = 0) ∧ (∀ y r', J = y :: r' → y.done = 0) := by
    have hR : (∀ y ∈ r, GoodJ k y) ∧ r.length ≤ 8 ∧ (∀ y ∈ r.tail, y.at_ = 0 ∧ y.done = 0) ∧ (∀ y r', r = y :: r' → y.done = 0) :=
      ⟨fun y hy => h.jobs y (by rw [hjs]; exact List.mem_cons_of_mem _ hy), by omega, fun y hy => hr y (List.mem_of_mem_tail hy), fun y r' e => (hr y (by rw [e]; exact List.mem_cons_self ..)).2⟩
    rcases hJ with e | ⟨hd, e⟩
    · subst e; exact hR
    · unfold after at e
      by_cases hl : j.at_ + 1 = j.prog.length
      · rw [if_pos hl] at e; subst e; exact hR
      · rw [if_neg hl] at e; subst e
        obtain ⟨e1, e2⟩ := zt hgj hd
        have e2 := e2 hl
        rw [e1] at e2
        refine ⟨fun y hy => ?_, by simp; omega, fun y hy => hr y hy, fun y r' e => by cases e; rfl⟩
        rcases List.mem_cons.1 hy with e | hy
        · subst e; exact e2
        · exact hR.1 y hy
  obtain ⟨k1, k2, k3, k4⟩ := key
  obtain ⟨f1, f2, f3, f4, f5⟩ := tR x J
  have hid : (fB x J).s = if J = [] then (ge x.s).1 else x.s := by unfold fB; cases J <;> rfl
  refine ⟨⟨by rw [f1]; exact h.id1, by rw [f1]; exact h.id2, ?_, by rw [f3]; exact k2, by rw [f3]; exact k1, by rw [f3]; exact k3, .inl f2, fun _ _ => ?_⟩, ?_⟩
  · rw [hid]
    split
    · exact (zu h.s).1
    · exact h.s
  · unfold headDone
    rw [f3]
    cases hJ' : J with
    | nil => rfl
    | cons y r' => exact k4 y r' hJ'
  · unfold Idl
    rw [f3, hid]
    by_cases e : J = []
    · rw [if_pos e]
      exact ⟨fun _ => (zu h.s).2, fun _ => e⟩
    · rw [if_neg e]
      exact ⟨fun h => absurd h e, fun h => absurd h hm⟩
theorem zv {B : Int} {σ : St} (h : Iv B σ) {i : Nat} {x : Serv} {j : Job} {r : List Job} (hx : σ.servs[i]? = some x) (hjs : x.jobs = j :: r) :
    Iv B (gp σ i).1 ∧ (gp σ i).1.m = σ.m ∧ (gp σ i).1.now = σ.now ∧ (gp σ i).1.backs = σ.backs ∧ (gp σ i).1.sems.length = σ.sems.length ∧ (gp σ i).1.servs.map (·.id) = σ.servs.map (·.id) ∧ (∀ k y, k ≠ i → σ.servs[k]? = some y → ∃ y', (gp σ i).1.servs[k]? = some y' ∧ Next y y') := by
  have hxm := List.mem_of_getElem? hx
  have hg := h.serv x hxm
  have hi := (List.getElem?_eq_some_iff.1 hx).1
  have hfix : ∀ J, (dO (fB x J).s.mode 1 && eX (fB x J).sec 0) = true → (dO x.s.mode 1 && eX x.sec 0) = true := fun J hb => by
    rw [(tR x J).2.1, fP.2 rfl, Bool.and_false] at hb; cases hb
  have rel : ∀ (q : Nat) (l : Lock) (t : Bool) (J : List Job), (J = r ∨ (j.done = j.cur.2 ∧ J = after j r)) → σ.sems[q]? = some l → l.holder = x.id → key x = (x.id, 2, (q : Int) + 1) →
      let τ := (free { σ with servs := σ.servs.set i (fB x J) } ((q : Int) + 1) t).1
      Iv B τ ∧ τ.m = σ.m ∧ τ.now = σ.now ∧ τ.backs = σ.backs ∧ τ.sems.length = σ.sems.length ∧ τ.servs.map (·.id) = σ.servs.map (·.id) ∧ (∀ k y, k ≠ i → σ.servs[k]? = some y → ∃ y', τ.servs[k]? = some y' ∧ Next y y') := by
    intro q l t J hJ hl hh hk τ
    obtain ⟨f1, f2, f3, f4, f5⟩ := tR x J
    obtain ⟨g1, g2⟩ := yw hg hjs (h.idle x hxm) hJ
    obtain ⟨a1, a2, a3, a4, a5, a6, a7, a8⟩ := HH (t := t) h.toIw hx hk hl hh f1 f2 g1 (by rw [f4]; exact h.num x hxm) (by rw [f5]; exact h.ran x hxm)
    refine ⟨{ toIw := by rw [a3]; exact a1, idle := fun y' hy' => ?_, fix := ?_ }, a2, a3, a4, a5, a6, a8⟩
    · obtain ⟨k, hk'⟩ := List.getElem?_of_mem hy'
      by_cases e : k = i
      · subst e
        rw [a7] at hk'; cases hk'; exact g2
      · have hlen : τ.servs.length = σ.servs.length := by have := congrArg List.length a6; simpa using this
        have hkl : k < σ.servs.length := by rw [← hlen]; exact (List.getElem?_eq_some_iff.1 hk').1
        obtain ⟨y2, b1, b2⟩ := a8 k _ e (List.getElem?_eq_getElem hkl)
        rw [hk'] at b1; cases b1
        have := h.idle _ (List.getElem_mem hkl)
        rcases b2 with e | ⟨_, e⟩
        · rw [e]; exact this
        · rw [e]; exact this
    · refine Int.le_trans (Int.ofNat_le.2 ?_) (by rw [a2]; exact h.fix)
      have e1 : pl.nfix ((ready (σ.servs.set i (fB x J))).map Serv.ent) ≤ fixed σ := nZ hx (hfix J)
      refine Nat.le_trans ?_ e1
      cases hq : l.queue with
      | nil =>
        have : τ.servs = σ.servs.set i (fB x J) := by
          show (free { σ with servs := σ.servs.set i (fB x J) } ((q : Int) + 1) t).1.servs = _
          rw [rK (σ := { σ with servs := σ.servs.set i (fB x J) }) t hl hq]
        unfold fixed
        rw [this]
        exact Nat.le_refl _
      | cons y r' =>
        obtain ⟨v, hv, hvid, hvs, _⟩ := qq h.toIw hl (y := y) (by rw [hq]; exact List.mem_cons_self ..)
        have hat : at_ (σ.servs.set i (fB x J)) y = at_ σ.servs y := lG (il hx f1) y
        have hki : at_ σ.servs y ≠ i := fun e => by
          rw [e, hx] at hv; cases hv
          have := congrArg (·.2.1) hk
          unfold key at this
          simp at this; omega
        have hv' : (σ.servs.set i (fB x J))[at_ (σ.servs.set i (fB x J)) y]? = some v := by rw [hat, List.getElem?_set, if_neg (fun h => hki h.symm)]; exact hv
        have : τ.servs = (σ.servs.set i (fB x J)).set (at_ (σ.servs.set i (fB x J)) y) { v with sec := 2, held := 0 } := by
          show (free { σ with servs := σ.servs.set i (fB x J) } ((q : Int) + 1) t).1.servs = _
          rw [rM (σ := { σ with servs := σ.servs.set i (fB x J) }) t hl hq hv']
        unfold fixed
        rw [this]
        refine nZ hv' (fun hb => ?_)
        simp only [Bool.and_eq_true] at hb ⊢
        exact ⟨hb.1, jl.2 (by omega)⟩
  rcases HI h.toIw hx hjs with ⟨_, _, e⟩ | ⟨hd, hs, _, e⟩ | ⟨q, l, hs, hq, hl, hh, hk, ⟨hd, e⟩ | ⟨hd, _, e⟩⟩
  · rw [e]; exact ⟨h, rfl, rfl, rfl, rfl, rfl, fun k y _ hy => ⟨y, hy, .inl rfl⟩⟩
  · rw [e]
    obtain ⟨f1, f2, f3, f4, f5⟩ := tR x (after j r)
    obtain ⟨g1, g2⟩ := yw hg hjs (h.idle x hxm) (.inr ⟨hd, rfl⟩)
    refine ⟨{ toIw := h.toIw.setS hx ?_ g1 (by rw [f4]; exact h.num x hxm) (by rw [f5]; exact h.ran x hxm), idle := gm h.idle g2, fix := Int.le_trans (Int.ofNat_le.2 (nZ hx (hfix _))) h.fix }, rfl, rfl, rfl, rfl, il hx f1, fun k y hk hy => ⟨y, ?_, .inl rfl⟩⟩
    · rw [wh f2, wh hs, f1]
    · show (σ.servs.set i _)[k]? = _
      rw [List.getElem?_set, if_neg (fun h => hk h.symm)]; exact hy
  · rw [e]; exact rel q l false _ (.inr ⟨hd, rfl⟩) hl hh hk
  · rw [e]; exact rel q l true _ (.inl rfl) hl hh hk
end Go.AX.pm
namespace Go.AX.pm
open Go.AX
theorem tS{B:Int}:∀{L:List Nat}{σ : St},Iv B σ->L.Nodup->(∀p∈L,∃x,σ.servs[p]? = some x/\x.jobs≠[])->
  Iv B (ends σ L).1/\(ends σ L).1.m = σ.m/\(ends σ L).1.now = σ.now/\(ends σ L).1.backs = σ.backs/\(ends σ L).1.sems.length = σ.sems.length/\(ends σ L).1.servs.map (·.id) = σ.servs.map (·.id)
 | [],σ,h,_,_=>⟨h,rfl,rfl,rfl,rfl,rfl⟩
 | i::r,σ,h,hn,hp=>by
  rw[List.nodup_cons]at hn;obtain⟨x,hx,hj⟩:=hp i (List.mem_cons_self ..);cases hjs:x.jobs with
  | nil=>exact absurd hjs hj
  | cons j js=>
   obtain⟨a1,a2,a3,a4,a5,a6,a7⟩:=zv h hx hjs;obtain⟨b1,b2,b3,b4,b5,b6⟩:=tS (L:=r) a1 hn.2 (fun p hpr=>by
    obtain⟨y,hy,hyj⟩:=hp p (List.mem_cons_of_mem _ hpr);obtain⟨y',hy',hN⟩:=a7 p y (fun e=>hn.1 (e▸hpr)) hy;refine⟨y',hy',?_⟩;rcases hN with e|⟨_,e⟩
    .rw[e];exact hyj
    .rw[e];exact hyj)
   exact⟨b1,b2.trans a2,b3.trans a3,b4.trans a4,b5.trans a5,b6.trans a6⟩
theorem iY{B:Int}{σ : St}(h:Iv B σ)(ha:CG σ):uN σ ((dU σ).map (at_ σ.servs)):=by
 refine⟨?_,fun p hp=>?_⟩
 .rw[List.Nodup,List.pairwise_map];refine(List.Pairwise.and_mem.1 (zy σ)).imp fun{a b} hab=>?_
  obtain⟨h1,h2,hne⟩:=hab;obtain⟨x,hx,rfl,_⟩:=lr h h1;obtain⟨y,hy,rfl,_⟩:=lr h h2;intro e;rw[e,hy]at hx;cases hx;exact hne rfl
 .obtain⟨id,hid,rfl⟩:=List.mem_map.1 hp;obtain⟨x,hx,rfl,hm,hj⟩:=lr h hid;exact⟨x,hx,hm,hj,ha x (List.mem_of_getElem? hx) hid⟩
noncomputable def gV(l:List Back)(n:Nat):List Back:=l.drop n++(l.take n).map fun b=>{ b with ran:=aJ .i64 b.ran 1 }
theorem HP{l:List Back}{R:Int}(n:Nat)(hR:R<=4611686018427387904)(h:∀b∈l,1<=b.id/\b.id<=255/\0<=b.ran/\b.ran<=R)(hn:(l.map (·.id)).Nodup) :
  (gV l n).length=l.length/\(∀b∈gV l n,1<=b.id/\b.id<=255/\0<=b.ran/\b.ran<=R+1)/\((gV l n).map (·.id)).Nodup:=by
 unfold gV;refine⟨?_,fun b hb=>?_,?_⟩
 .rw[List.length_append,List.length_map,List.length_drop,List.length_take];omega
 .rcases List.mem_append.1 hb with hb|hb
  .have:=h b (List.mem_of_mem_drop hb);omega
  .obtain⟨c,hc,rfl⟩:=List.mem_map.1 hb;obtain⟨h1,h2,h3,h4⟩:=h c (List.mem_of_mem_take hc);refine⟨h1,h2,?_⟩;show 0<=aJ .i64 c.ran 1/\aJ .i64 c.ran 1<=R+1;rw[fq (by omega) (by omega)];omega
 .rw[List.map_append,List.map_map];have e:(List.take n l).map ((fun b:Back=>b.id)∘fun b=>{ b with ran:=aJ .i64 b.ran 1 })=(List.take n l).map (·.id):=rfl;rw[e,<-List.map_append];have hp:(l.drop n++l.take n).Perm l:=List.perm_append_comm.trans (by rw[List.take_append_drop]);exact(hp.map _).nodup_iff.2 hn
theorem pL{σ : St}(h:σ.now<4611686018427387904):tick σ = (let a:=settle σ;let t:=runs a.1 ((dU a.1).map (at_ a.1.servs));let e:=ends { t with backs:=gV t.backs (gI a.1).length,now:=aJ .i64 t.now 1 } ((dU a.1).map (at_ a.1.servs));(e.1,a.2++e.2,0)):=by
 unfold tick gV;rw[show leI rm σ.now=false from mg.2 h];rfl
theorem oZ{B:Int}{σ : St}(h:Iv B σ):(settle σ).1.now = σ.now/\(settle σ).1.backs = σ.backs/\(settle σ).1.sems.length = σ.sems.length/\(settle σ).1.servs.map (·.id) = σ.servs.map (·.id):=by
 have h1:=pd (σ.servs.length+1) (rO h);have g:=(qt h1).2.1;have gen:∀(n:Nat) {τ : St},Iv B τ->(dS n τ).1.now = τ.now/\(dS n τ).1.backs = τ.backs/\(dS n τ).1.sems = τ.sems/\(dS n τ).1.servs.map (·.id) = τ.servs.map (·.id):=by
  intro n
  induction n with
  | zero=>intro τ _;exact⟨rfl,rfl,rfl,rfl⟩
  | succ n ih=>
   intro τ hτ;unfold dS;split
   .exact⟨rfl,rfl,rfl,rfl⟩
   .rename_i σ' e hr;obtain⟨a,b,c,d⟩:=ih (oe hτ hr).1;obtain⟨p,hp,v,k,hv,_,_,e,_⟩:=gE hr;subst e;refine⟨a,b,c,d.trans ?_⟩;exact il hv rfl
 obtain⟨a,b,c,d⟩:=gen (σ.servs.length+1) (rO h);refine⟨g.now.trans a,g.backs.trans b,g.sems.trans (by rw[c];rfl),(g.ids.trans d).trans ?_⟩;rw[<-nH,zA,nH]
theorem wt{B:Int}{σ : St}(h:Iv B σ)(hn:σ.now<4611686018427387904){L:List Nat}(hL:uN σ L)(n:Nat) :
  Iv B { runs σ L with backs:=gV (runs σ L).backs n,now:=aJ .i64 (runs σ L).now 1 }/\aJ .i64 (runs σ L).now 1 = σ.now+1:=by
 obtain⟨e1,e2,e3,e4,e5,e6⟩:=jh L σ hL.1;obtain⟨r1,r2,r3⟩:=Lp h hL;have h2:=h.now1;have en:aJ .i64 (runs σ L).now 1 = σ.now+1:=by rw[e2,fq (by omega) (by omega)]
 have ht:=HP (l:=(runs σ L).backs) (R:=σ.now) n h.now2 (by rw[e4];exact h.back) (by rw[e4];exact h.bnd);rw[en];refine⟨?_,rfl⟩;refine { toIw:={ r1 with now1:=?_,now2:=?_,len3:=by rw[ht.1];exact r1.len3,back:=ht.2.1,bnd:=ht.2.2 },idle:=r2,fix:=by rw[show ({ runs σ L with backs:=gV (runs σ L).backs n,now:=σ.now+1 }:St).m = σ.m from e1];exact r3 }
 .show 0<=σ.now+1;omega
 .show σ.now+1<=_;omega
theorem qv{σ : St}{L:List Nat}(hL:uN σ L):∀p∈L,∃x,(runs σ L).servs[p]? = some x/\x.jobs≠[]:=fun p hp=>by
 obtain⟨x,hx,hm,hj,_⟩:=hL.2 p hp;refine⟨gU x,?_,?_⟩
 .rw[(jh L σ hL.1).2.2.2.2.2,if_pos hp,hx];rfl
 .rw[jg];show jX x≠[];unfold jX;split
  .exact hj
  .split
   .rename_i e;exact absurd e hj
   .simp
theorem tO{B:Int}{σ : St}(h:Iv B σ):Iv B (tick σ).1/\(tick σ).1.m = σ.m/\(tick σ).1.sems.length = σ.sems.length/\((tick σ).1.now=if σ.now<4611686018427387904 then σ.now+1 else σ.now)/\((tick σ).2.2=if σ.now<4611686018427387904 then 0 else 6):=by
 by_cases hn:σ.now<4611686018427387904
 .rw[pL hn,if_pos hn,if_pos hn];simp only;obtain⟨s1,s2,s3⟩:=mH h;obtain⟨s4,s5,s6,s7⟩:=oZ h;generalize (settle σ).1 = τ at s1 s2 s3 s4 s5 s6 s7;have hL:=iY s1 s2;obtain⟨u1,u2⟩:=wt s1 (by rw[s4];exact hn) hL (gI τ).length;obtain⟨v1,v2,v3,v4,v5,v6⟩:=tS (L:=(dU τ).map (at_ τ.servs)) u1 hL.1 (fun p hp=>qv hL p hp);obtain⟨e1,e2,e3,e4,e5,e6⟩:=jh _ τ hL.1;refine⟨v1,(v2.trans e1).trans s3,(v5.trans (by show (runs τ _).sems.length=_;rw[e3])).trans s6,(v3.trans u2).trans (by rw[s4]),trivial⟩
 .unfold tick;rw[show leI rm σ.now=true from hY.2 (by show (4611686018427387904:Int)<=σ.now;omega),if_neg hn,if_neg hn];exact⟨h,rfl,rfl,rfl,rfl⟩
theorem HQ{m:Int}{most:List Int}(h:(new m most).2=0):Iv 0 (new m most).1/\new m most=(⟨m,0,[],most.map fun n=>⟨n,0,[],false⟩,[]⟩,0)/\1<=m/\m<=64/\most.length<=8/\∀n∈most,1<=n/\n<=1048576:=by
 unfold new at h ⊢;cases hc:(dJ m 1 || (dJ 64 m || (dJ 8 (aQ most.length) || most.any qL)))with
 | true=>rw[hc]at h;simp at h
 | false=>
  simp only[Bool.or_eq_false_iff,eL,iG,List.any_eq_false]at hc;obtain⟨h1,h2,h3,h4⟩:=hc;have h5:∀n∈most,1<=n/\n<=1048576:=fun n hn=>by
   have:=h4 n hn;unfold qL at this;simp only[Bool.not_eq_true,Bool.or_eq_false_iff,eL]at this;exact this
  refine⟨?_,rfl,h1,h2,by omega,h5⟩;rw[cond_false];refine { m1:=h1,m2:=h2,now1:=Int.le_refl _,now2:=by simp,rise:=trivial,len1:=by simp,len2:=by simp;omega,len3:=by simp,serv:=fun x hx=>(by cases hx),num:=fun x hx=>(by cases hx),ran:=fun x hx=>(by cases hx),most:=fun l hl=>?_,lock:=fun q l hl=>?_,back:=fun b hb=>(by cases hb),bnd:=List.nodup_nil,idle:=fun x hx=>(by cases hx),fix:=by show ((0:Nat):Int)<=m;omega }
  .obtain⟨n,hn,rfl⟩:=List.mem_map.1 hl;exact h5 n hn
  .have hl:=List.mem_of_getElem? hl;obtain⟨n,hn,rfl⟩:=List.mem_map.1 hl;exact⟨List.nodup_nil,fun id=>⟨fun h=>(by cases h),fun h=>(by cases h)⟩,fun id=>⟨fun h=>absurd h.2.symm h.1,fun h=>(by cases h)⟩,fun _=>rfl⟩
theorem tT{l:List Serv}(hr:Rise l){id:Int}:has l id=true↔∃x∈l,x.id=id:=by
 unfold has;constructor
 .intro h;split at h
  .rename_i v hv;exact⟨v,List.mem_of_getElem? hv,eP.1 h⟩
  .cases h
 .rintro⟨x,hx,rfl⟩;rw[at_mem hr hx];exact eP.2 rfl
theorem Dl{l:List Serv}(hr:Rise l){id:Int}(h:has l id=true):∃x,l[at_ l id]? = some x/\x.id=id:=by
 obtain⟨x,hx,rfl⟩:=(tT hr).1 h;exact⟨x,at_mem hr hx,rfl⟩
theorem Bs:∀{l:List Serv}(n:Nat),Rise l->Rise (l.take n)
 | [],n,h=>by simp;exact trivial
 | x::r,0,h=>trivial
 | x::r,n+1,h=>⟨fun y hy=>h.1 y (List.mem_of_mem_take hy),Bs n h.2⟩
theorem Bt:∀{l:List Serv}(n:Nat),Rise l->Rise (l.drop n)
 | [],n,h=>by simp;exact trivial
 | x::r,0,h=>h
 | x::r,n+1,h=>Bt n h.2
theorem xG:∀{l k:List Serv},Rise l->Rise k->(∀x∈l,∀y∈k,x.id<y.id)->Rise (l++k)
 | [],k,_,h,_=>h
 | x::r,k,h,hk,hl=>⟨fun y hy=>by
   rcases List.mem_append.1 hy with h1|h1
   .exact h.1 y h1
   .exact hl x (List.mem_cons_self ..) y h1,xG h.2 hk fun x hx=>hl x (List.mem_cons_of_mem _ hx)⟩
theorem JH{l:List Serv}(hr:Rise l){x:Serv}(hn:has l x.id=false):Rise (l.take (at_ l x.id)++x::l.drop (at_ l x.id)):=by
 have h1:∀y∈l.take (at_ l x.id),y.id<x.id:=fun y hy=>by
  obtain⟨i,hi⟩:=List.getElem?_of_mem hy;rw[List.getElem?_take]at hi;split at hi
  .rename_i hlt;exact Gl hi hlt
  .cases hi
 have h2:∀y∈l.drop (at_ l x.id),x.id<y.id:=fun y hy=>by
  obtain⟨i,hi⟩:=List.getElem?_of_mem hy;rw[List.getElem?_drop]at hi;have:=Gm hr hi (Nat.le_add_right _ _);have hne:y.id≠x.id:=fun e=>by
   have:has l x.id=true:=(tT hr).2 ⟨y,List.mem_of_mem_drop hy,e⟩;rw[hn]at this;cases this
  omega
 refine xG (Bs _ hr) ⟨h2,Bt _ hr⟩ fun y hy z hz=>?_
 rcases List.mem_cons.1 hz with e|hz
 .subst e;exact h1 y hy
 .have:=h1 y hy;have:=h2 z hz;omega
theorem pM{l:List Serv}{n:Nat}{x y:Serv}:y∈l.take n++x::l.drop n↔y=x∨y∈l:=by
 rw[List.mem_append,List.mem_cons];constructor
 .rintro(h|h|h)
  .exact .inr (List.mem_of_mem_take h)
  .exact .inl h
  .exact .inr (List.mem_of_mem_drop h)
 .rintro(h|h)
  .exact .inr (.inl h)
  .rw[<-List.take_append_drop n l,List.mem_append]at h;rcases h with h|h
   .exact .inl h
   .exact .inr (.inr h)
theorem LockOk.same{K K':List Key}{r:Nat}{l:Lock}(h:LockOk K r l)(hK:∀z:Key,z.2.2=(r:Int)+1->(z∈K'↔z∈K)):LockOk K' r l:=
 ⟨h.nd,fun id=>by rw[hK _ rfl];exact h.wait id,fun id=>by rw[hK _ rfl];exact h.hold id,h.free⟩
theorem HR{B:Int}{σ : St}(h:Iv B σ)(hB:0<=B)(id q p:Int):Iv B (add σ id q p).1/\(add σ id q p).1.m = σ.m/\(add σ id q p).1.now = σ.now/\(add σ id q p).1.sems = σ.sems:=by
 unfold add;cases h1:(dJ id 1 || dJ 255 id)with
 | true=>exact⟨h,rfl,rfl,rfl⟩
 | false=>
  simp only[Bool.or_eq_false_iff,eL]at h1;cases h2:has σ.servs id with
  | true=>exact⟨h,rfl,rfl,rfl⟩
  | false=>
   cases h3:leI 32 (aQ σ.servs.length)with
   | true=>exact⟨h,rfl,rfl,rfl⟩
   | false=>
    have h3:=mg.1 h3;simp only[iG]at h3;cases h4:eX (gk q p).2 0 with
    | true=>exact⟨h,rfl,rfl,rfl⟩
    | false=>
     obtain⟨c1,c2,c3⟩:=wk (fP.1 h4);simp only[cond_false];refine⟨?_,trivial,trivial,trivial⟩;generalize hx:(⟨id,(gk q p).1,[],0,0,0,0⟩:Serv)=x;have e0:x.id=id:=by rw[<-hx]
     have es:x.s=(gk q p).1:=by rw[<-hx]
     have ej:x.jobs=[]:=by rw[<-hx]
     have esec:x.sec=0:=by rw[<-hx]
     have en:x.num=0:=by rw[<-hx]
     have er:x.ran=0:=by rw[<-hx]
     have hs0:headSem x=0:=by unfold headSem;rw[ej]
     have hall:∀{p:Serv->Prop},(∀y∈σ.servs,p y)->p x->∀y∈σ.servs.take (at_ σ.servs id)++x::σ.servs.drop (at_ σ.servs id),p y:=fun ha hx y hy=>by
      rcases pM.1 hy with e|hy
      .rw[e];exact hx
      .exact ha y hy
     have hgood:GoodV σ.sems.length x:=⟨by rw[e0];exact h1.1,by rw[e0];exact h1.2,by rw[es];exact c1,by rw[ej];simp,fun j hj=>(by rw[ej]at hj;cases hj),fun j hj=>(by rw[ej]at hj;cases hj),.inl esec,fun _ hh=>(by rw[hs0]at hh;omega)⟩;have hlen:(σ.servs.take (at_ σ.servs id)++x::σ.servs.drop (at_ σ.servs id)).length = σ.servs.length+1:=by
      rw[List.length_append,List.length_cons,List.length_take,List.length_drop];have:=Gn σ.servs id;omega
     refine { h with rise:=by rw[<-e0]at h2 ⊢;exact JH h.rise h2,len1:=by rw[hlen];omega,serv:=hall h.serv hgood,num:=hall h.num (by rw[en];omega),ran:=hall h.ran (by have:=h.now1;rw[er];exact⟨Int.le_refl _,this⟩),lock:=fun q' l hl=>?_,idle:=hall h.idle (by unfold Idl;rw[ej,es];exact⟨fun _=>c2,fun _=>rfl⟩),fix:=?_ }
     .refine(h.lock q' l hl).same fun z hz=>?_
      rw[List.mem_map,List.mem_map];constructor
      .rintro⟨y,hy,e⟩;rcases pM.1 hy with e'|hy
       .subst e';rw[wh esec]at e;rw[<-e]at hz;simp at hz;omega
       .exact⟨y,hy,e⟩
      .rintro⟨y,hy,e⟩;exact⟨y,pM.2 (.inr hy),e⟩
     .refine Int.le_trans (Int.ofNat_le.2 ?_) h.fix;unfold fixed;rw[nK,nK];show (σ.servs.take _++x::σ.servs.drop _).countP _<=_;rw[List.countP_append,List.countP_cons];have:(dO x.s.mode 1&&eX x.sec 0)=false:=by rw[esec,fP.2 rfl,Bool.and_false]
      rw[this];have e:=List.countP_append (p:=fun y:Serv=>(dO y.s.mode 1&&eX y.sec 0)) (l₁:=σ.servs.take (at_ σ.servs id)) (l₂:=σ.servs.drop (at_ σ.servs id));rw[List.take_append_drop]at e;rw[e];simp
theorem zB{B:Int}{σ : St}(h:Iv B σ)(hB:B<4611686018427387904)(id:Int)(p:List Step):Iv (B+1) (release σ id p).1/\(release σ id p).1.m = σ.m/\(release σ id p).1.now = σ.now/\(release σ id p).1.sems = σ.sems:=by
 have h0:Iv (B+1) σ:=h.mono (by omega);unfold release;cases h1:has σ.servs id with
 | false=>exact⟨h0,rfl,rfl,rfl⟩
 | true=>
  simp only[Bool.not_true,cond_false];cases h2:ma p σ.sems.length with
  | false=>exact⟨h0,rfl,rfl,rfl⟩
  | true=>
   simp only[Bool.not_true,cond_false];obtain⟨x,hx,rfl⟩:=Dl h.rise h1;rw[hx];simp only;generalize at_ σ.servs x.id=i at hx
   cases h3:leI 8 (aQ x.jobs.length)with
   | true=>exact⟨h0,rfl,rfl,rfl⟩
   | false=>
    have h3:=mg.1 h3;simp only[iG]at h3;simp only[cond_false];have hxm:=List.mem_of_getElem? hx;have hg:=h.serv x hxm;obtain⟨n1,n2⟩:=h.num x hxm;have en:aJ .i64 x.num 1=x.num+1:=fq (by omega) (by omega);obtain⟨j1,j2⟩:=Bo (n:=x.num+1) h2 (by omega);rw[en,j1];simp only;have hjobs:∀j∈x.jobs++[(⟨x.num+1,p,0,0⟩:Job)],GoodJ σ.sems.length j:=fun j hj=>by
     rcases List.mem_append.1 hj with h|h
     .exact hg.jobs j h
     .rw[List.mem_singleton.1 h];exact j2
    have hrest:∀j∈(x.jobs++[(⟨x.num+1,p,0,0⟩:Job)]).tail,j.at_=0/\j.done=0:=fun j hj=>by
     cases hjs:x.jobs with
     | nil=>rw[hjs]at hj;simp at hj
     | cons y r=>
      rw[hjs]at hj;simp only[List.cons_append,List.tail_cons,List.mem_append,List.mem_singleton]at hj;rcases hj with h|h
      .exact hg.rest j (by rw[hjs];exact h)
      .rw[h];exact⟨rfl,rfl⟩
    have hsame:x.jobs≠[]->headSem { x with num:=x.num+1,jobs:=x.jobs++[⟨x.num+1,p,0,0⟩] }=headSem x/\headDone { x with num:=x.num+1,jobs:=x.jobs++[⟨x.num+1,p,0,0⟩] }=headDone x:=fun hne=>by
     unfold headSem headDone;cases hjs:x.jobs with
     | nil=>exact absurd hjs hne
     | cons y r=>exact⟨rfl,rfl⟩
    cases h4:x.idle with
    | false=>
     have hm:x.s.mode≠0:=fU.1 h4;have hne:x.jobs≠[]:=fun e=>hm ((h.idle x hxm).1 e)
     obtain⟨s1,s2⟩:=hsame hne;simp only[Bool.not_false,cond_true];refine⟨{ toIw:=h0.toIw.setS hx ?_ ?_ ⟨by show 0<=x.num+1;omega,by show x.num+1<=B+1;omega⟩ (h.ran x hxm),idle:=gm h.idle ⟨fun e=>by simp at e,fun e=>absurd e hm⟩,fix:=Int.le_trans (Int.ofNat_le.2 (nZ hx (fun hb=>hb))) h.fix },trivial,trivial,trivial⟩
     .unfold key;rw[s1]
     .exact { hg with len:=by show (x.jobs++_).length<=8;simp;omega,jobs:=hjobs,rest:=hrest,sec:=by rw[s1];exact hg.sec,done0:=by rw[s1,s2];exact hg.done0 }
    | true=>
     have hm:x.s.mode=0:=eP.1 h4;have hje:=(h.idle x hxm).2 hm;have hsec:x.sec=0:=by
      rcases hg.sec with e|⟨_,e⟩
      .exact e
      .unfold headSem at e;rw[hje]at e;simp at e
     simp only[Bool.not_true,cond_false];cases h5:eX (gn x.s σ.now).2 0 with
     | true=>exact⟨h0,rfl,rfl,rfl⟩
     | false=>
      simp only[cond_false];obtain⟨w1,w2⟩:=Gj hg.s h.now1 h.now2 (fP.1 h5);refine⟨{ toIw:=h0.toIw.setS hx ?_ ?_ ⟨by show 0<=x.num+1;omega,by show x.num+1<=B+1;omega⟩ (h.ran x hxm),idle:=gm h.idle ⟨fun e=>by simp at e,fun e=>absurd e w2⟩,fix:=Int.le_trans (Int.ofNat_le.2 (nZ hx (fun hb=>?_))) h.fix },trivial,trivial,trivial⟩
      .exact(wh (x:={ x with num:=x.num+1,jobs:=x.jobs++[⟨x.num+1,p,0,0⟩],s:=(gn x.s σ.now).1 }) hsec).trans (wh hsec).symm
      .refine { hg with s:=w1,len:=by show (x.jobs++_).length<=8;simp;omega,jobs:=hjobs,rest:=hrest,sec:=.inl hsec,done0:=fun _ _=>?_ };unfold headDone;simp only[hje,List.nil_append]
      .have hb:(dO (gn x.s σ.now).1.mode 1&&eX x.sec 0)=true:=hb;rw[hsec,fP.2 rfl,Bool.and_false]at hb;cases hb
end Go.AX.pm
namespace Go.AX
open Go
noncomputable section
section
variable {T:Tys}{wj wq:Nat->Kd}{m0 m m2 mo:Mem}{lam:Nat->Lb}{a1 a2 a3:Option Addr}{n1 c1 n2 c2 n3 c3:Nat}{ss:List SV}{js:Nat->List JV}{ls:List LV}{qs:Nat->List Int}{σ : pm.St}
theorem Ow.atB(h:Ow T wj wq m0 m lam a1 n1 c1 a2 n2 c2 a3 n3 c3 ss js ls qs σ){i:Nat}{x:pm.Back}(hx:σ.backs[i]? = some x) :
  ∃b o,a3=some ⟨b,o,none⟩/\lam b = .bk/\∀k u,(encB x)[k]? = some u->rd m b (o+Int.toNat (i:Int)*2+k)=some u:=by
 obtain⟨b,o,e,hc⟩:=(h.s3.arr lF h.s3n).2 i x hx;exact⟨b,o,e,h.s3l b (by rw[e];simp[blk]),fun k u hu=>by rw[Int.toNat_natCast];exact hc k u hu⟩
theorem Ow.setB(h:Ow T wj wq m0 m lam a1 n1 c1 a2 n2 c2 a3 n3 c3 ss js ls qs σ){b o i k:Nat}{x x':pm.Back}{vs:List Value}(hx:σ.backs[i]? = some x)(hab:a3=some ⟨b,o,none⟩)(hk:k+vs.length<=2)(he:over (encB x) k vs=encB x') :
  okW m b (o+Int.toNat (i:Int)*2+k) vs.length/\Ow T wj wq m0 (wr m b (o+Int.toNat (i:Int)*2+k) vs) lam a1 n1 c1 a2 n2 c2 a3 n3 c3 ss js ls qs { σ with backs:=σ.backs.set i x' }:=by
 have hw:=h.keep.wf;obtain⟨b',o',e,hok,hc⟩:=h.s3.set lF (by omega) h.s3n hx hk he (by have:=h.keep.fl;have:=h.fl0;omega);rw[hab]at e;cases e;refine⟨hok,?_⟩;have hlb:lam b = .bk:=h.s3l b (by rw[hab];simp[blk]);have hnb:m0.nx<=b:=h.new b (by rw[hlb];simp);have f:Fr m (wr m b (o+Int.toNat (i:Int)*2+k) vs) [b]:=(Fr.refl m _).wr (.inl (by simp));have ne:∀{b':Nat}{L:Lb},lam b'=L->L≠.bk->b'∉[b]:=fun e hn hs=>hn (by rw[<-e,List.mem_singleton.1 hs,hlb])
 have nb:∀b'∈[b],lam b'≠.pr:=fun b' hb'=>by rw[List.mem_singleton.1 hb',hlb];simp
 refine { h with keep:=h.keep.wr hnb,lab:=fun b hb=>by simpa using h.lab b hb,s3:=hc,s3n:=by show (σ.backs.set i x').length=n3;rw[List.length_set];exact h.s3n,s1:=h.s1.fr hw f (fun b hb=>ne (h.s1l b hb) (by simp)),s2:=h.s2.fr hw f (fun b hb=>ne (h.s2l b hb) (by simp)),jb:=fun k u hu=>?_,qu:=fun k u hu=>?_,ds:=fun j u x hu hx=>?_ }
 .exact(h.jb k u hu).fr hw f nb (fun b' hb'=>by rw[List.mem_singleton.1 hb',hlb];simp)
 .exact(h.qu k u hu).fr hw f nb (fun b' hb'=>by rw[List.mem_singleton.1 hb',hlb];simp)
 .obtain⟨p,q⟩:=h.ds j u x hu hx;exact⟨p,q.imp fun _ _ r=>r.fr hw f nb⟩
theorem Ow.newB(h:Ow T wj wq m0 m lam a1 n1 c1 a2 n2 c2 a3 n3 c3 ss js ls qs σ){a':Option Addr}{n' c':Nat}{l':List pm.Back}(k:Keep m m2)(ho:OwnSl mo m2 T.B a' n' c' (l'.flatMap encB))(hn:m.nx<=mo.nx)(hl:l'.length=n') :
  ∃lam',Ow T wj wq m0 m2 lam' a1 n1 c1 a2 n2 c2 a' n' c' ss js ls qs { σ with backs:=l' }/\(∀b,lam b≠.no->lam' b=lam b)/\(∀b,b<m.nx->lam' b=lam b):=by
 have h2:=h.then k;have hbl:∀b∈blk a',m.nx<=b/\b<m2.nx:=fun b hb=>⟨Nat.le_trans hn (ho.blk b hb),ho.lt k.wf b hb⟩
 have hnx:=h.keep.nx;have key:∀lam',(∀b∈blk a',lam' b = .bk)->Ow T wj wq m0 m2 lam' a1 n1 c1 a2 n2 c2 a3 n3 c3 ss js ls qs σ->Ow T wj wq m0 m2 lam' a1 n1 c1 a2 n2 c2 a' n' c' ss js ls qs { σ with backs:=l' }:=fun lam' hl' h'=>
  { h' with s3:=(ho.csl true).old (Nat.le_trans hnx hn),s3l:=hl',s3n:=hl }
 cases a' with
 | none=>exact⟨lam,key lam (fun b hb=>by cases hb) h2,fun b _=>rfl,fun b _=>rfl⟩
 | some ad=>
  obtain⟨q1,q2⟩:=hbl ad.block (by simp[blk]);have hno:lam ad.block = .no:=h.noNew q1;refine⟨iD lam ad.block .bk,key _ (fun b hb=>?_) (h2.own hno q2),fun b hb=>?_,fun b hb=>?_⟩
  .simp[blk]at hb;subst hb;exact fR ..
  .rw[ft];intro e;subst e;exact hb hno
  .rw[ft];intro e;omega
theorem Ow.apartS{cx:Cx}{m':Mem}{S:List Nat}(h:Ow T wj wq m0 m lam a1 n1 c1 a2 n2 c2 a3 n3 c3 ss js ls qs σ)(f:Fr m m' S)(hS:∀b∈S,lam b = .sv)(hz:eH cx T.B=some 2) :
  All2 (RdServ m') ss σ.servs/\(∃ls,Arr encL 4 m' a2 n2 ls/\All2 (RdLock m') ls σ.sems)/\Arr encB 2 m' a3 n3 σ.backs/\Cut cx m' a3 n3 c3 2:=by
 have hw:=h.keep.wf;have ne:∀{b:Nat}{L:Lb},lam b=L->L≠.sv->b∉S:=fun e hn hs=>hn (by rw[<-e,hS _ hs])
 have nb:∀b'∈S,lam b'≠.pr:=fun b' hb'=>by rw[hS b' hb'];simp
 have h3:=h.s3.fr hw f (fun b hb=>ne (h.s3l b hb) (by simp));refine⟨All2.of (by rw[h.s1n,h.s1d]) fun i v x hv hx=>?_,⟨ls,(h.s2.fr hw f (fun b hb=>ne (h.s2l b hb) (by simp))).arr nG h.s2n,All2.of (by rw[h.s2n,h.s2d]) fun k v l hv hl=>?_⟩,h3.arr lF h.s3n,⟨by rw[h.s3.cap];exact Nat.le_refl _,?_⟩⟩
 .obtain⟨p,q⟩:=h.ds i v x hv hx;exact⟨p.id,p.s,p.sec,p.held,p.num,p.ran,js i,((h.jb i v hv).fr hw f nb (fun b' hb'=>by rw[hS b' hb'];simp)).arr ic,q.imp fun _ _ r=>let r:=r.fr hw f nb;⟨r.num,r.at_,r.done,r.prog⟩⟩
 .obtain⟨p,q⟩:=h.dl k v l hv hl;exact⟨p.most,p.holder,p.dead,by rw[<-q];exact((h.qu k v hv).fr hw f nb (fun b' hb'=>by rw[hS b' hb'];simp)).arr fy⟩
 .generalize σ.backs.flatMap encB=L at h3;cases h3 with
  | nil=>exact .inl rfl
  | empty b cc h1 h2=>exact .inr ⟨b,0,_,rfl,h2,by unfold sameSize;rw[h2]⟩
  | row b n pre l hw h1 h2=>
   obtain⟨c',h3,_⟩:=id h2;exact .inr ⟨b,_,_,rfl,h3,h2.sameSize hz⟩
end
end
end Go.AX
namespace Go.AX.pm
open Go.AX
noncomputable section
structure Act where
 op:Int
 who:Int
 q:Int
 p:Int
 n:Int
 steps:List Step
def gf:Nat->St->St
 | 0,s=>s
 | k+1,s=>(tick (gf k s)).1
theorem Di{B:Int}{σ : St}(h:Iv B σ):∀k,Iv B (gf k σ)/\(gf k σ).m = σ.m/\(gf k σ).sems.length = σ.sems.length/\σ.now<=(gf k σ).now/\(gf k σ).now<=σ.now+k
 | 0=>⟨h,rfl,rfl,Int.le_refl _,by show σ.now<=_;omega⟩
 | k+1=>by
  obtain⟨a,b,c,d,e⟩:=Di h k;obtain⟨a',b',c',d',_⟩:=tO a;refine⟨a',b'.trans b,c'.trans c,?_,?_⟩
  .show _<=(tick (gf k σ)).1.now;rw[d'];split<;>omega
  .show (tick (gf k σ)).1.now<=_;rw[d'];split<;>omega
end
end Go.AX.pm
namespace Go.AX.pm
open Go.AX
theorem Mn{a p:Int}(ha:0<=a)(hp:1<=p):a<(a.tdiv p+1)*p/\(a.tdiv p+1)*p<=a+p/\0<=a.tdiv p/\a.tdiv p<=a:=by
 have h1:a.tdiv p=a / p:=Int.tdiv_eq_ediv_of_nonneg ha;rw[h1];have h2:=Int.emod_nonneg a (show p≠0 by omega);have h3:=Int.emod_lt_of_pos a (show 0<p by omega);have h4:=Int.mul_ediv_add_emod a p;have h5:(a / p+1)*p=p*(a / p)+p:=by rw[Int.add_mul,Int.mul_comm];simp
 have h6:0<=a / p:=Int.ediv_nonneg ha (by omega);have h7:a / p<=a:=Int.ediv_le_self _ ha;rw[h5];refine⟨by omega,by omega,h6,h7⟩
theorem Mo{t d p r:Int}(hp:1<=p)(hp2:p<=2147483648)(h:nY t d p=(r,true)):t<r:=by
 unfold nY at h;cases hg:gZ t&&(gZ d&&qp p 1 2147483648)with
 | false=>rw[hg]at h;simp at h
 | true=>
  rw[hg,cond_true]at h;simp only[Bool.and_eq_true]at hg;have ht:=mG.1 hg.1;have hd:=mG.1 hg.2.1;cases hl:dJ t d with
  | true=>rw[hl,cond_true]at h;cases h;exact jk.1 hl
  | false=>
   rw[hl,cond_false]at h;rw[eL]at hl;obtain⟨q1,q2,q3,q4⟩:=Mn (a:=t-d) (p:=p) (by omega) hp;have e1:dY .i64 t d=t-d:=iI (by omega) (by omega);have e2:rJ .i64 (t-d) p=(t-d).tdiv p:=nA (by omega) (by omega);have e3:aJ .i64 ((t-d).tdiv p) 1=(t-d).tdiv p+1:=fq (by omega) (by omega);have e4:jT .i64 ((t-d).tdiv p+1) p=((t-d).tdiv p+1)*p:=pJ (by omega) (by omega);have e5:aJ .i64 d (((t-d).tdiv p+1)*p)=d+((t-d).tdiv p+1)*p:=fq (by omega) (by omega);rw[e1,e2,e3,e4,e5]at h;unfold qb at h;cases hz:gZ (d+((t-d).tdiv p+1)*p)with
   | false=>rw[hz]at h;simp at h
   | true=>
    rw[hz,cond_true]at h;cases h;omega
end Go.AX.pm
namespace Go.AX.pm
open Go.AX
noncomputable section
def jo(s:St):List Int:=s.servs.map (·.ran)
theorem lH{l:List Serv}{i:Nat}{v v':Serv}(h:l[i]? = some v)(e:v'.ran=v.ran):(l.set i v').map (·.ran)=l.map (·.ran):=by
 rw[jm,e];exact pe (by rw[List.getElem?_map,h];rfl)
theorem Bw(s:St)(q:Int)(t:Bool):jo (free s q t).1=jo s:=by
 unfold free;split
 .rfl
 .split
  .rfl
  .split
   .rfl
   .rename_i v hv;exact lH hv rfl
theorem HX(s:St)(i:Nat):jo (iv s i).1=jo s:=by
 unfold iv;split
 .rfl
 .rename_i v hv;split
  .rfl
  .rename_i j r hj;simp only;have key:∀a:St×List Ev,jo a.1=jo s->jo (match a.1.servs[i]? with
    | none=>a
    | some w=>bif dO (fa j).1.at_ (aQ j.prog.length) then ({ a.1 with servs:=a.1.servs.set i { w with jobs:=r } },a.2++[eI s 2 w.id j.num])
     else ({ a.1 with servs:=a.1.servs.set i { w with jobs:=(fa j).1::r } },a.2)).1=jo s:=by
    intro a ha;split
    .exact ha
    .rename_i w hw;cases dO (fa j).1.at_ (aQ j.prog.length)with
     | true=>exact(lH (v':={ w with jobs:=r }) hw rfl).trans ha
     | false=>exact(lH (v':={ w with jobs:=(fa j).1::r }) hw rfl).trans ha
   cases dO j.done (eD j).1.2 with
   | true=>
    simp only[cond_true];refine key _ ?_;cases dO v.sec 2 with
    | true=>exact(Bw _ _ _).trans (lH hv rfl)
    | false=>rfl
   | false=>
    simp only[cond_false];cases (dO v.sec 2&&(match s.sems[((eD j).1.1-1).toNat]? with|some l=>dO v.held l.most|none=>false))with
    | true=>exact(Bw _ _ _).trans (lH hv rfl)
    | false=>rfl
theorem HY(s:St)(i:Nat):jo (kU s i).1=jo s:=by
 unfold kU;split
 .rfl
 .rename_i v hv;split
  .exact lH hv rfl
  .rfl
theorem By:∀(l:List Nat)(s:St),jo (ends s l).1=jo s
 | [],_=>rfl
 | i::r,s=>(By r _).trans ((HY _ _).trans (HX s i))
theorem JJ{B:Int}{σ : St}(h:Iv B σ)(hn:σ.now<4611686018427387904):let τ:=(settle σ).1;let L:=(dU τ).map (at_ τ.servs);
  (∀(k:Nat) x y,(tick σ).1.servs[k]? = some x->τ.servs[k]? = some y->x.ran=y.ran+(if k∈L then 1 else 0))/\L.Nodup/\(∀p∈L,p < τ.servs.length)/\(tick σ).1.backs=gV τ.backs (gI τ).length/\(tick σ).1.servs.length = τ.servs.length:=by
 intro τ L;rw[pL hn];simp only;obtain⟨s1,s2,s3⟩:=mH h;obtain⟨s4,s5,s6,s7⟩:=oZ h;have hL:uN τ L:=iY s1 s2;obtain⟨u1,u2⟩:=wt s1 (by rw[s4];exact hn) hL (gI τ).length;obtain⟨v1,v2,v3,v4,v5,v6⟩:=tS (L:=L) u1 hL.1 (fun p hp=>qv hL p hp);obtain⟨e1,e2,e3,e4,e5,e6⟩:=jh L τ hL.1;have hr:=By L { runs τ L with backs:=gV (runs τ L).backs (gI τ).length,now:=aJ .i64 (runs τ L).now 1 };refine⟨fun k x y hx hy=>?_,hL.1,fun p hp=>?_,?_,?_⟩
 .have hx':(jo (ends { runs τ L with backs:=gV (runs τ L).backs (gI τ).length,now:=aJ .i64 (runs τ L).now 1 } L).1)[k]? = some x.ran:=by
   unfold jo;rw[List.getElem?_map,hx];rfl
  rw[hr]at hx';have hx2:((runs τ L).servs.map (·.ran))[k]? = some x.ran:=hx';rw[List.getElem?_map,e6,hy]at hx2;have hb:=s1.ran y (List.mem_of_getElem? hy);rw[s4]at hb;by_cases hk:k∈L
  .rw[if_pos hk]at hx2 ⊢;simp only[Option.map_some,Option.some.injEq]at hx2;rw[<-hx2,jg];exact fq (by omega) (by omega)
  .rw[if_neg hk]at hx2 ⊢;simp only[Option.map_some,Option.some.injEq]at hx2;omega
 .obtain⟨x,hx,_⟩:=hL.2 p hp;exact(List.getElem?_eq_some_iff.1 hx).1
 .refine v4.trans ?_;show gV (runs τ L).backs _=_;rw[e4]
 .have:=congrArg List.length v6;simp only[List.length_map]at this;exact this.trans e5
end
end Go.AX.pm
namespace Go.AX.pm
open Go.AX
noncomputable section
def Sv(s s':Srv):Prop:=s'.q=s.q/\(s.due<s'.due∨s'.due=s.due/\s'.bud<=s.bud)
theorem Sv.refl(s:Srv):Sv s s:=⟨rfl,.inr ⟨rfl,Int.le_refl _⟩⟩
theorem Sv.trans{a b c:Srv}(h:Sv a b)(k:Sv b c):Sv a c:=by
 obtain⟨h1,h2⟩:=h;obtain⟨k1,k2⟩:=k;exact⟨k1.trans h1,by omega⟩
theorem Sv.same{s s':Srv}(a:s'.q=s.q)(b:s'.due=s.due)(c:s'.bud=s.bud):Sv s s':=⟨a,.inr ⟨b,by omega⟩⟩
theorem rR(s:Srv):(gC s).q=s.q:=by unfold gC;cases dO s.bud 0<;>rfl
theorem pf(s:Srv):(gC s).due=s.due:=by unfold gC;cases dO s.bud 0<;>rfl
theorem uO(s:Srv):(gC s).bud=s.bud:=by unfold gC;cases dO s.bud 0<;>rfl
theorem JO{s:Srv}{now:Int}(h:CF s):Sv s (eK s now).1:=by
 cases hb:(eK s now).2 with
 | false=>rw[Dk hb];exact Sv.refl _
 | true=>
  unfold eK at hb ⊢;rw[ka.2 h]at hb ⊢;cases h1:(!true || (dO s.mode 0 || dJ now s.due))with
  | true=>rw[h1]at hb;simp at hb
  | false=>
   rw[h1,cond_false]at hb;rw[cond_false];cases h2:(nY now s.due s.p).2 with
   | false=>rw[h2]at hb;simp at hb
   | true=>
    have hlt:=Mo (r:=(nY now s.due s.p).1) h.p1 h.p2 (by rw[<-h2]);simp only[Bool.not_true,Bool.false_or,Bool.or_eq_false_iff]at h1;have h3:=eL.1 h1.2;rw[cond_true];refine⟨by rw[rR],.inl ?_⟩;rw[pf];show s.due<(nY now s.due s.p).1;omega
theorem JP(s:Srv):Sv s (fO s).1:=by
 unfold fO;cases !jB s<;>cases eX s.mode 1<;>exact Sv.same rfl rfl rfl
theorem Fg{s:Srv}(h:CF s)(hm:s.mode=1):(fm s 1).1.q=s.q/\(fm s 1).1.due=s.due/\(fm s 1).1.bud=s.bud-1:=by
 have hr:=h.r;have b2:=h.b2;have q2:=h.q2;have p2:=h.p2;unfold fm;rw[ka.2 h,show dJ s.bud 1=false from eL.2 (by omega),show eX s.mode 1=false from fP.2 hm];simp only[Bool.not_true,Bool.false_or,Bool.or_false,show dJ 1 1=false from eL.2 (by decide),cond_false];rw[rR,pf,uO];exact⟨rfl,rfl,iI (by omega) (by omega)⟩
def kf(l l':List Serv):Prop:=∀(k:Nat) x',l'[k]? = some x'->∃x,l[k]? = some x/\Sv x.s x'.s
theorem kf.refl(l:List Serv):kf l l:=fun k x h=>⟨x,h,Sv.refl _⟩
theorem kf.trans{a b c:List Serv}(h:kf a b)(k:kf b c):kf a c:=fun i x hx=>by
 obtain⟨y,hy,h1⟩:=k i x hx;obtain⟨z,hz,h2⟩:=h i y hy;exact⟨z,hz,h2.trans h1⟩
theorem kf.set{l:List Serv}{i:Nat}{v v':Serv}(h:l[i]? = some v)(e:Sv v.s v'.s):kf l (l.set i v'):=fun k x hx=>by
 rw[List.getElem?_set]at hx;split at hx
 .rename_i he;subst he;split at hx
  .cases hx;exact⟨v,h,e⟩
  .cases hx
 .exact⟨x,hx,Sv.refl _⟩
def Sq(s s':Srv):Prop:=s'.q=s.q/\s'.due=s.due/\s'.bud=s.bud
theorem Sq.refl(s:Srv):Sq s s:=⟨rfl,rfl,rfl⟩
theorem Sq.trans{a b c:Srv}(h:Sq a b)(k:Sq b c):Sq a c:=⟨k.1.trans h.1,k.2.1.trans h.2.1,k.2.2.trans h.2.2⟩
theorem JQ(s:Srv):Sq s (ge s).1:=by
 unfold ge;cases !jB s<;>cases dO s.mode 0<;>exact⟨rfl,rfl,rfl⟩
def jF(l l':List Serv):Prop:=∀(k:Nat) x',l'[k]? = some x'->∃x,l[k]? = some x/\Sq x.s x'.s
theorem jF.refl(l:List Serv):jF l l:=fun k x h=>⟨x,h,Sq.refl _⟩
theorem jF.trans{a b c:List Serv}(h:jF a b)(k:jF b c):jF a c:=fun i x hx=>by
 obtain⟨y,hy,h1⟩:=k i x hx;obtain⟨z,hz,h2⟩:=h i y hy;exact⟨z,hz,h2.trans h1⟩
theorem jF.set{l:List Serv}{i:Nat}{v v':Serv}(h:l[i]? = some v)(e:Sq v.s v'.s):jF l (l.set i v'):=fun k x hx=>by
 rw[List.getElem?_set]at hx;split at hx
 .rename_i he;subst he;split at hx
  .cases hx;exact⟨v,h,e⟩
  .cases hx
 .exact⟨x,hx,Sq.refl _⟩
theorem JR{k:Nat}{s:St}(h:∀x∈s.servs,GoodV k x):kf s.servs (gj s).servs:=fun i x hx=>by
 have hx':(s.servs.map fun v=>(gi s.now v).1)[i]? = some x:=hx;rw[List.getElem?_map]at hx';cases hy:s.servs[i]? with
 | none=>rw[hy]at hx';cases hx'
 | some y=>
  rw[hy]at hx';simp only[Option.map_some,Option.some.injEq]at hx';subst hx';refine⟨y,rfl,?_⟩;rcases nL s.now y with e|⟨_,_,e⟩
  .rw[e];exact Sv.refl _
  .rw[e];exact JO (h y (List.mem_of_getElem? hy)).s
theorem H2{s s':St}{e:Ev}(hr:refuse s=some (s',e)):kf s.servs s'.servs:=by
 obtain⟨p,hp,v,k,h1,h2,_,rfl,_⟩:=gE hr;exact kf.set h1 (JP _)
theorem zF:∀(n:Nat)(s:St),kf s.servs (dS n s).1.servs
 | 0,s=>kf.refl _
 | n+1,s=>by
  unfold dS;cases hr:refuse s with
  | none=>exact kf.refl _
  | some p=>
   obtain⟨s',e⟩:=p;exact(H2 hr).trans (zF n s')
theorem H3(s:St)(i:Nat)(q:Int):kf s.servs (fe s i q).1.servs:=by
 unfold fe;split
 .rename_i v l h1 h2;cases eX l.holder 0 with
  | true=>exact kf.set h1 (Sv.refl _)
  | false=>exact kf.set h1 (Sv.refl _)
 .exact kf.refl _
theorem BC:∀(L:List (Nat×Int))(s:St),kf s.servs (eY s L).1.servs
 | [],s=>kf.refl _
 | (i,q)::r,s=>(H3 s i q).trans (BC r _)
theorem BD{k:Nat}{s:St}(h:∀x∈s.servs,GoodV k x):kf s.servs (settle s).1.servs:=
 (JR h).trans ((zF _ _).trans (BC _ _))
theorem Fi(s:St)(q:Int)(t:Bool):jF s.servs (free s q t).1.servs:=by
 unfold free;split
 .exact jF.refl _
 .split
  .exact jF.refl _
  .split
   .exact jF.refl _
   .rename_i v hv;exact jF.set hv (Sq.refl _)
theorem Lx(s:St)(i:Nat):jF s.servs (iv s i).1.servs:=by
 unfold iv;split
 .exact jF.refl _
 .rename_i v hv;split
  .exact jF.refl _
  .rename_i j r hj;simp only;have key:∀a:St×List Ev,jF s.servs a.1.servs->jF s.servs (match a.1.servs[i]? with
    | none=>a
    | some w=>bif dO (fa j).1.at_ (aQ j.prog.length) then ({ a.1 with servs:=a.1.servs.set i { w with jobs:=r } },a.2++[eI s 2 w.id j.num])
     else ({ a.1 with servs:=a.1.servs.set i { w with jobs:=(fa j).1::r } },a.2)).1.servs:=by
    intro a ha;split
    .exact ha
    .rename_i w hw;cases dO (fa j).1.at_ (aQ j.prog.length)with
     | true=>exact ha.trans (jF.set hw (Sq.refl _))
     | false=>exact ha.trans (jF.set hw (Sq.refl _))
   cases dO j.done (eD j).1.2 with
   | true=>
    simp only[cond_true];refine key _ ?_;cases dO v.sec 2 with
    | true=>exact jF.trans (jF.set (v':={ v with sec:=0 }) hv (Sq.refl _)) (Fi _ _ _)
    | false=>exact jF.refl _
   | false=>
    simp only[cond_false];cases (dO v.sec 2&&(match s.sems[((eD j).1.1-1).toNat]? with|some l=>dO v.held l.most|none=>false))with
    | true=>exact jF.trans (jF.set (v':={ v with jobs:=r,sec:=0 }) hv (Sq.refl _)) (Fi _ _ _)
    | false=>exact jF.refl _
theorem Ly(s:St)(i:Nat):jF s.servs (kU s i).1.servs:=by
 unfold kU;split
 .exact jF.refl _
 .rename_i v hv;split
  .exact jF.set hv (JQ _)
  .exact jF.refl _
theorem Fj:∀(l:List Nat)(s:St),jF s.servs (ends s l).1.servs
 | [],s=>jF.refl _
 | i::r,s=>(Lx s i).trans ((Ly _ _).trans (Fj r _))
def Sr(s s':Srv):Prop:=s'.q=s.q/\s'.bud+1<=s'.q/\(s.due<s'.due∨s'.due=s.due/\s'.bud+1<=s.bud)
theorem Lr{B:Int}{σ : St}(h:Iv B σ)(hn:σ.now<4611686018427387904):let τ:=(settle σ).1;let L:=(dU τ).map (at_ τ.servs);
  ∀(k:Nat) x,(tick σ).1.servs[k]? = some x->∃y,σ.servs[k]? = some y/\(if k∈L then Sr y.s x.s else Sv y.s x.s):=by
 intro τ L k x hx;rw[pL hn]at hx;simp only at hx;obtain⟨s1,s2,s3⟩:=mH h;have hL:uN τ L:=iY s1 s2;obtain⟨e1,e2,e3,e4,e5,e6⟩:=jh L τ hL.1;obtain⟨u,hu,g1,g2,g3⟩:=Fj L { runs τ L with backs:=gV (runs τ L).backs (gI τ).length,now:=aJ .i64 (runs τ L).now 1 } k x hx;have hu':(runs τ L).servs[k]? = some u:=hu;rw[e6]at hu';by_cases hk:k∈L
 .rw[if_pos hk]at hu';obtain⟨z,hz,hm,_,_⟩:=hL.2 k hk;rw[hz]at hu';simp only[Option.map_some,Option.some.injEq]at hu';subst hu';obtain⟨y,hy,y1,y2⟩:=BD (fun x hx=>h.serv x hx) k z hz;have hc:=(s1.serv z (List.mem_of_getElem? hz)).s;obtain⟨c1,c2,c3⟩:=Fg hc hm;have hb:=hc.b2;rw[jg]at g1 g2 g3;simp only at g1 g2 g3;refine⟨y,hy,?_⟩;rw[if_pos hk];refine⟨by omega,by omega,by omega⟩
 .rw[if_neg hk]at hu';obtain⟨y,hy,hv⟩:=BD (fun x hx=>h.serv x hx) k u hu';refine⟨y,hy,?_⟩;rw[if_neg hk];exact hv.trans ⟨g1,.inr ⟨g2,by omega⟩⟩
theorem JS{s:Srv}{now:Int}(h:CF s)(hn:0<=now)(hn2:now<=4611686018427387904):Sv s (gn s now).1:=by
 have q1:=h.q1;have q2:=h.q2;have p1:=h.p1;have p2:=h.p2;have b1:=h.b1;have b2:=h.b2;have d2:=h.d2;unfold gn;rw[ka.2 h,mG.2 ⟨hn,hn2⟩];simp only[Bool.not_true,Bool.or_self,cond_false];cases h1:eX s.mode 0 with
 | true=>exact Sv.refl _
 | false=>
  simp only[cond_false];cases h2:leI s.due now with
  | true=>
   have hle:=hY.1 h2;simp only[cond_true];cases h3:(nF now s.p).2 with
   | false=>exact Sv.refl _
   | true=>
    simp only[cond_true];refine⟨rR _,.inl ?_⟩;rw[pf];show s.due<(nF now s.p).1;unfold nF at h3 ⊢;cases h4:gZ now&&gZ s.p with
    | false=>rw[h4]at h3;simp at h3
    | true=>
     rw[h4,cond_true]at h3;rw[cond_true];unfold qb at h3 ⊢;cases h5:gZ (aJ .i64 now s.p)with
     | false=>rw[h5]at h3;simp at h3
     | true=>
      rw[cond_true];show s.due<aJ .i64 now s.p;rw[fq (by omega) (by omega)];omega
  | false=>
   simp only[cond_false];cases h3:dJ (jT .i64 (jL (dY .i64 s.due now) s.p) s.q) (jT .i64 s.bud s.p)with
   | false=>exact Sv.same (rR _) (pf _) (uO _)
   | true=>
    simp only[cond_true];refine⟨rR _,.inr ⟨pf _,?_⟩⟩;rw[uO];show (kT (jL (dY .i64 s.due now) s.p) s.q s.p).1<=s.bud;have hlt:=mg.1 h2;have e1:dY .i64 s.due now=s.due-now:=iI (by omega) (by omega);have hx:0<=jL (dY .i64 s.due now) s.p/\jL (dY .i64 s.due now) s.p<=s.p:=by
     rw[e1];unfold jL;split<;>omega
    generalize jL (dY .i64 s.due now) s.p=x at hx h3;have hm1:0<=x*s.q:=Int.mul_nonneg hx.1 (by omega);have hm2:x*s.q<=s.p*s.q:=Int.mul_le_mul_of_nonneg_right hx.2 (by omega);have hm3:s.p*s.q<=2147483648*2147483648:=Int.mul_le_mul p2 (by omega) (by omega) (by omega);have hm4:0<=s.bud*s.p:=Int.mul_nonneg b1 (by omega);have hm5:s.bud*s.p<=2147483648*2147483648:=Int.mul_le_mul (by omega) p2 (by omega) (by omega);have h6:=jk.1 h3;rw[pJ (by omega) (by omega),pJ (by omega) (by omega)]at h6;unfold kT;cases h4:(qp x 0 2147483648&&(qp s.p 1 2147483648&&qp s.q 0 s.p))with
    | false=>exact b1
    | true=>
     simp only[cond_true];rw[pJ (by omega) (by omega)];have e2:rJ .i64 (x*s.q) s.p=x*s.q / s.p:=by
      unfold rJ;rw[Int.tdiv_eq_ediv_of_nonneg hm1];exact nA (by have:=Int.ediv_nonneg hm1 (by omega:0<=s.p);omega) (by have:=Int.ediv_le_self s.p hm1;omega)
     rw[e2];have:=Int.ediv_lt_of_lt_mul (by omega:0<s.p) h6;omega
theorem Gt{B:Int}{s:St}(h:Iv B s)(id:Int)(p:List Step):kf s.servs (release s id p).1.servs:=by
 unfold release;cases (!has s.servs id)with
 | true=>exact kf.refl _
 | false=>
 cases (!ma p s.sems.length)with
 | true=>exact kf.refl _
 | false=>
  simp only[cond_false];split
  .exact kf.refl _
  .rename_i v hv;cases leI 8 (aQ v.jobs.length)with
   | true=>exact kf.refl _
   | false=>
    simp only[cond_false];cases (!v.idle)with
    | true=>exact kf.set hv (Sv.refl _)
    | false=>
     simp only[cond_false];cases eX (gn v.s s.now).2 0 with
     | true=>exact kf.refl _
     | false=>exact kf.set hv (JS (h.serv v (List.mem_of_getElem? hv)).s h.now1 h.now2)
def Us(u d:Int)(s:Srv):Prop:=0<=u/\d<=s.due/\u<=s.q/\(d=s.due->u+s.bud<=s.q)
theorem Us.still{u d:Int}{s s':Srv}(h:Us u d s)(k:Sv s s'):Us u d s':=by
 obtain⟨a,b,c,e⟩:=h;obtain⟨f,g⟩:=k;exact⟨a,by omega,by omega,fun hd=>by have:=e (by omega);omega⟩
theorem Us.run{u d:Int}{s s':Srv}(h:Us u d s)(k:Sr s s')(hb:0<=s'.bud):Us ((if s'.due≠d then 0 else u)+1) s'.due s':=by
 obtain⟨a,b,c,e⟩:=h;obtain⟨f,g,i⟩:=k;by_cases hd:s'.due=d
 .rw[if_neg (by simpa using hd)];have:=e (by omega);exact⟨by omega,Int.le_refl _,by omega,fun _=>by omega⟩
 .rw[if_pos hd];exact⟨by omega,Int.le_refl _,by omega,fun _=>by omega⟩
end
end Go.AX.pm
namespace Go.AX.pm
open Go.AX
noncomputable section
def HO(x:Serv):Prop:=0<=x.held/\x.held<=x.ran
def Hd(s:St):Prop:=∀x∈s.servs,HO x
theorem HO.of{x x':Serv}(h:HO x)(a:x'.held=x.held)(b:x'.ran=x.ran):HO x':=by unfold HO at *;rw[a,b];exact h
theorem HO.zero{x x':Serv}(h:HO x)(a:x'.held=0)(b:x'.ran=x.ran):HO x':=by unfold HO at *;rw[a,b];omega
theorem Hd.set{s:St}(h:Hd s){i:Nat}{x:Serv}(hx:HO x):∀y∈s.servs.set i x,HO y:=gm h hx
theorem Hd.at{s:St}(h:Hd s){i:Nat}{x:Serv}(hx:s.servs[i]? = some x):HO x:=h x (List.mem_of_getElem? hx)
theorem JG{s:St}(h:Hd s):Hd (gj s):=fun x hx=>by
 obtain⟨y,hy,rfl⟩:=List.mem_map.1 hx;obtain⟨_,_,b,_,_,a⟩:=mT s.now y;exact(h y hy).of a b
theorem HM{s s':St}{e:Ev}(h:Hd s)(hr:refuse s=some (s',e)):Hd s':=by
 obtain⟨p,hp,v,k,h1,h2,_,rfl,_⟩:=gE hr;exact h.set ((h.at h1).of rfl rfl)
theorem zz:∀(n:Nat){s:St},Hd s->Hd (dS n s).1
 | 0,_,h=>h
 | n+1,s,h=>by
  unfold dS;cases hr:refuse s with
  | none=>exact h
  | some p=>
   obtain⟨s',e⟩:=p;exact zz n (HM h hr)
theorem HN{s:St}(h:Hd s)(i:Nat)(q:Int):Hd (fe s i q).1:=by
 unfold fe;split
 .rename_i v l h1 h2;cases eX l.holder 0 with
  | true=>exact h.set ((h.at h1).of rfl rfl)
  | false=>exact h.set ((h.at h1).zero rfl rfl)
 .exact h
theorem Bq:∀(L:List (Nat×Int)){s:St},Hd s->Hd (eY s L).1
 | [],_,h=>h
 | (i,q)::r,s,h=>Bq r (HN h i q)
theorem Br{s:St}(h:Hd s):Hd (settle s).1:=Bq _ (zz _ (JG h))
theorem Fe{s:St}(h:Hd s)(q:Int)(t:Bool):Hd (free s q t).1:=by
 unfold free;split
 .exact h
 .split
  .exact h
  .split
   .exact h
   .rename_i v hv;exact h.set ((h.at hv).zero rfl rfl)
theorem Ll{s:St}(h:Hd s)(i:Nat):Hd (iv s i).1:=by
 unfold iv;split
 .exact h
 .rename_i v hv;have hV:=h.at hv;split
  .exact h
  .rename_i j r hj;simp only;have key:∀a:St×List Ev,Hd a.1->Hd (match a.1.servs[i]? with
    | none=>a
    | some w=>bif dO (fa j).1.at_ (aQ j.prog.length) then ({ a.1 with servs:=a.1.servs.set i { w with jobs:=r } },a.2++[eI s 2 w.id j.num])
     else ({ a.1 with servs:=a.1.servs.set i { w with jobs:=(fa j).1::r } },a.2)).1:=by
    intro a ha;split
    .exact ha
    .rename_i w hw;cases dO (fa j).1.at_ (aQ j.prog.length)with
     | true=>exact ha.set ((ha.at hw).of rfl rfl)
     | false=>exact ha.set ((ha.at hw).of rfl rfl)
   cases dO j.done (eD j).1.2 with
   | true=>
    simp only[cond_true];refine key _ ?_;cases dO v.sec 2 with
    | true=>exact Fe (s:={ s with servs:=s.servs.set i { v with sec:=0 } }) (h.set (hV.of rfl rfl)) _ _
    | false=>exact h
   | false=>
    simp only[cond_false];cases (dO v.sec 2&&(match s.sems[((eD j).1.1-1).toNat]? with|some l=>dO v.held l.most|none=>false))with
    | true=>exact Fe (s:={ s with servs:=s.servs.set i { v with jobs:=r,sec:=0 } }) (h.set (hV.of rfl rfl)) _ _
    | false=>exact h
theorem Lm{s:St}(h:Hd s)(i:Nat):Hd (kU s i).1:=by
 unfold kU;split
 .exact h
 .rename_i v hv;split
  .exact h.set ((h.at hv).of rfl rfl)
  .exact h
theorem Ff:∀(l:List Nat){s:St},Hd s->Hd (ends s l).1
 | [],_,h=>h
 | i::r,s,h=>Ff r (Lm (Ll h i) i)
theorem Ln{R:Int}{x:Serv}(h:HO x)(hR:x.ran<=R)(hR2:R<=4611686018427387904):HO (gU x):=by
 unfold HO at *;have e1:aJ .i64 x.ran 1=x.ran+1:=fq (by omega) (by omega);have e2:aJ .i64 x.held 1=x.held+1:=fq (by omega) (by omega);rw[jg];show 0<=od x/\od x<=aJ .i64 x.ran 1;rw[e1];unfold od;split
 .omega
 .split
  .omega
  .cases dO x.sec 2 with
   | true=>simp only[cond_true,e2];omega
   | false=>simp only[cond_false];omega
theorem Lo{B:Int}{s:St}(hI:Iv B s)(h:Hd s):Hd (tick s).1:=by
 by_cases hn:s.now<4611686018427387904
 .rw[pL hn];simp only;obtain⟨s1,s2,s3⟩:=mH hI;have hS:=Br h;have hL:=iY s1 s2;have hn2:=s1.now2;refine Ff _ ?_;intro x hx;obtain⟨j,hj⟩:=List.getElem?_of_mem hx;have hj':(runs (settle s).1 ((dU (settle s).1).map (at_ (settle s).1.servs))).servs[j]? = some x:=hj;rw[(jh _ _ hL.1).2.2.2.2.2]at hj';split at hj'
  .obtain⟨y,hy,rfl⟩:=Option.map_eq_some_iff.1 hj';exact Ln (hS.at hy) (s1.ran y (List.mem_of_getElem? hy)).2 hn2
  .exact hS.at hj'
 .unfold tick;rw[show leI rm s.now=true from hY.2 (by show (4611686018427387904:Int)<=s.now;omega)];exact h
theorem Mk{s:St}(h:Hd s)(id q p:Int):Hd (add s id q p).1:=by
 unfold add;cases (dJ id 1 || dJ 255 id)with
 | true=>exact h
 | false=>
 cases has s.servs id with
 | true=>exact h
 | false=>
 cases leI 32 (aQ s.servs.length)with
 | true=>exact h
 | false=>
 cases eX (gk q p).2 0 with
 | true=>exact h
 | false=>
  intro x hx;rcases List.mem_append.1 hx with hx|hx
  .exact h x (List.mem_of_mem_take hx)
  .rcases List.mem_cons.1 hx with rfl|hx
   .exact⟨Int.le_refl _,Int.le_refl _⟩
   .exact h x (List.mem_of_mem_drop hx)
theorem Gk{s:St}(h:Hd s)(id:Int)(p:List Step):Hd (release s id p).1:=by
 unfold release;cases (!has s.servs id)with
 | true=>exact h
 | false=>
 cases (!ma p s.sems.length)with
 | true=>exact h
 | false=>
  simp only[cond_false];split
  .exact h
  .rename_i v hv;cases leI 8 (aQ v.jobs.length)with
   | true=>exact h
   | false=>
    simp only[cond_false];cases (!v.idle)with
    | true=>exact h.set ((h.at hv).of rfl rfl)
    | false=>
     simp only[cond_false];cases eX (gn v.s s.now).2 0 with
     | true=>exact h
     | false=>exact h.set ((h.at hv).of rfl rfl)
end
end Go.AX.pm
