import Derived.Test.YthpnifigjfplbaaGreatQU25
import Derived.Test.YthpnifigjfplbaaGreatQU24
set_option linter.unusedSimpArgs false
set_option linter.unusedVariables false
set_option linter.unusedSectionVars false
namespace Go.AX.pm
open Go.AX
noncomputable def fc (x : Serv) (J : List Job) : Serv := match J with
  | [] => { x with sec := 0, jobs := [], s := (fL x.s).1 }
  | j :: r => { x with sec := 0, jobs := j :: r }
theorem yE {σ : St} {i q : Nat} {x a b : Serv} {l : Lock} (t : Bool) (hx : σ.servs[i]? = some x) (ha : a.id = x.id) (hb : b.id = x.id) (hl : σ.sems[q]? = some l) (hne : ∀ y r, l.queue = y :: r → at_ σ.servs y ≠ i ∧ ∃ v, σ.servs[at_ σ.servs y]? = some v) :
    ({ (free { σ with servs := σ.servs.set i a } ((q : Int) + 1) t).1 with servs := (free { σ with servs := σ.servs.set i a } ((q : Int) + 1) t).1.servs.set i b } : St) = (free { σ with servs := σ.servs.set i b } ((q : Int) + 1) t).1 ∧
    (free { σ with servs := σ.servs.set i a } ((q : Int) + 1) t).1.servs[i]? = some a ∧ (free { σ with servs := σ.servs.set i a } ((q : Int) + 1) t).2 = (free { σ with servs := σ.servs.set i b } ((q : Int) + 1) t).2 := by
  have hi := (gQ1 hx).1
  cases hq : l.queue with
  | nil =>
    rw [wW (σ := { σ with servs := σ.servs.set i a }) t hl hq, wW (σ := { σ with servs := σ.servs.set i b }) t hl hq]
    refine ⟨?_, ?_, rfl⟩
    · simp only [List.set_set]
    · show (σ.servs.set i a)[i]? = _
      rw [List.getElem?_set, if_pos rfl, if_pos hi]
  | cons y r =>
    obtain ⟨h1, v, hv⟩ := hne y r hq
    have ea : at_ (σ.servs.set i a) y = at_ σ.servs y := nA (jH hx ha) y
    have eb : at_ (σ.servs.set i b) y = at_ σ.servs y := nA (jH hx hb) y
    have va : (σ.servs.set i a)[at_ (σ.servs.set i a) y]? = some v := by rw [ea, List.getElem?_set, if_neg (fun h => h1 h.symm)]; exact hv
    have vb : (σ.servs.set i b)[at_ (σ.servs.set i b) y]? = some v := by rw [eb, List.getElem?_set, if_neg (fun h => h1 h.symm)]; exact hv
    rw [wX (σ := { σ with servs := σ.servs.set i a }) t hl hq va, wX (σ := { σ with servs := σ.servs.set i b }) t hl hq vb]
    simp only [ea, eb]
    refine ⟨?_, ?_, rfl⟩
    · congr 1
      rw [List.set_comm _ _ (fun h => h1 h), List.set_set]
    · rw [List.getElem?_set, if_neg h1, List.getElem?_set, if_pos rfl, if_pos hi]
theorem vX {σ : St} {i : Nat} {x : Serv} (hx : σ.servs[i]? = some x) : (kQ σ i).1 = match x.jobs with
    | [] => { σ with servs := σ.servs.set i { x with s := (fL x.s).1 } }
    | _ :: _ => σ := by
  unfold kQ
  rw [hx]
  simp only
  cases x.jobs <;> rfl
noncomputable def after (j : Job) (r : List Job) : List Job := if j.at_ + 1 = j.prog.length then r else { j with at_ := j.at_ + 1, done := 0 } :: r
theorem Pw {B R : Int} {σ : St} (h : Iw B R σ) {i : Nat} {x : Serv} {j : Job} {r : List Job} (hx : σ.servs[i]? = some x) (hjs : x.jobs = j :: r) :
    (j.done ≠ j.cur.2 ∧ (∀ q l, x.sec = 2 → headSem x = ((q : Nat) : Int) + 1 → σ.sems[q]? = some l → x.held ≠ l.most) ∧ (gw σ i).1 = σ) ∨
    (j.done = j.cur.2 ∧ x.sec = 0 ∧ headSem x ≤ 0 ∧ (gw σ i).1 = { σ with servs := σ.servs.set i (fc x (after j r)) }) ∨
    (∃ q l, x.sec = 2 ∧ headSem x = ((q : Nat) : Int) + 1 ∧ σ.sems[q]? = some l ∧ l.holder = x.id ∧ key x = (x.id, 2, (q : Int) + 1) ∧
      ((j.done = j.cur.2 ∧ (gw σ i).1 = (free { σ with servs := σ.servs.set i (fc x (after j r)) } ((q : Int) + 1) false).1) ∨
       (j.done ≠ j.cur.2 ∧ x.held = l.most ∧ (gw σ i).1 = (free { σ with servs := σ.servs.set i (fc x r) } ((q : Int) + 1) true).1))) := by
  have hxm := gQ3 hx
  have hg := h.serv x hxm
  have hgj := hg.jobs j (by rw [hjs]; exact gQ9 ..)
  have hst := hgj.step
  have hsem : headSem x = j.cur.1 := by unfold headSem; rw [hjs]
  have hi := (gQ1 hx).1
  have hset : ∀ (s : List Serv) (a b : Serv), (s.set i a).set i b = s.set i b := fun s a b => List.set_set ..
  have hnx : j.done = j.cur.2 → (bif cT (eL j).1.at_ (aQ j.prog.length) then r else (eL j).1 :: r) = after j r := fun hd => by
    obtain ⟨e, _⟩ := BC hgj hd
    unfold after
    rw [e]
    by_cases hl : j.at_ + 1 = j.prog.length
    · rw [if_pos hl, show cT (j.at_ + 1) (aQ j.prog.length) = true from eH.2 hl]; rfl
    · rw [if_neg hl, show cT (j.at_ + 1) (aQ j.prog.length) = false from dY.2 hl]; rfl
  have hfin : ∀ J : List Job, fc x J = (match J with | [] => { ({ x with sec := 0, jobs := J } : Serv) with s := (fL x.s).1 } | _ :: _ => { x with sec := 0, jobs := J }) := fun J => by
    unfold fc; cases J <;> rfl
  have wait : ∀ (q : Nat) (l : Lock), σ.sems[q]? = some l → l.holder = x.id → key x = (x.id, 2, (q : Int) + 1) → ∀ y r', l.queue = y :: r' → at_ σ.servs y ≠ i ∧ ∃ v, σ.servs[at_ σ.servs y]? = some v := fun q l hl hh hk y r' hq => by
    obtain ⟨v, hv, hvid, hvs, _⟩ := uK h hl (y := y) (by rw [hq]; exact gQ9 ..)
    refine ⟨fun e => ?_, v, hv⟩
    rw [e, hx] at hv; cases hv
    have := congrArg (·.2.1) hk
    unfold key at this
    simp at this; omega
  obtain ⟨i1, i2, i3, i4, i5, i6, i7⟩ := x
  simp only at hjs hsem hfin
  subst hjs
  by_cases hd : j.done = j.cur.2
  · have he : cT j.done j.cur.2 = true := eH.2 hd
    by_cases hs : i4 = 2
    · subst hs
      obtain ⟨q, l, q1, q2, q3, q4, _⟩ := yD h hx rfl
      have hq1 : j.cur.1 = (q : Int) + 1 := by rw [← hsem]; exact q1
      refine .inr (.inr ⟨q, l, rfl, q1, q2, q3, q4, .inl ⟨hd, ?_⟩⟩)
      obtain ⟨c1, c2, _⟩ := yE (a := ⟨i1, i2, j :: r, 0, i5, i6, i7⟩) (b := ⟨i1, i2, after j r, 0, i5, i6, i7⟩) false hx rfl rfl q2 (wait q l q2 q3 q4)
      obtain ⟨d1, d2, _⟩ := yE (a := ⟨i1, i2, after j r, 0, i5, i6, i7⟩) (b := fc ⟨i1, i2, j :: r, 2, i5, i6, i7⟩ (after j r)) false hx rfl (by rw [hfin]; cases after j r <;> rfl) q2 (wait q l q2 q3 q4)
      have e1 : (gE σ i).1 = (free { σ with servs := σ.servs.set i ⟨i1, i2, after j r, 0, i5, i6, i7⟩ } ((q : Int) + 1) false).1 := by
        unfold gE
        rw [hx]
        simp only [hst, he, cond_true, hq1, show cT 2 2 = true from eH.2 rfl]
        rw [c2, ← c1, ← hnx hd]
        simp only
        cases cT (eL j).1.at_ (aQ j.prog.length) <;> rfl
      show (kQ (gE σ i).1 i).1 = _
      rw [e1, vX d2]
      simp only
      rw [hfin] at d1 ⊢
      cases hJ : after j r with
      | nil => rw [hJ] at d1; exact d1
      | cons j' r' => rfl
    · have h0 : i4 = 0 ∧ j.cur.1 ≤ 0 := by
        have hd0 := hg.done0 hs
        have c1 := hgj.cur.2.2.1
        have : ¬ (1 ≤ j.cur.1) := fun h1 => by
          have := hd0 (by rw [hsem]; exact h1)
          unfold headDone at this
          simp at this; omega
        rcases hg.sec with e | ⟨_, e⟩
        · exact ⟨e, by omega⟩
        · rw [hsem] at e; exact absurd e this
      obtain ⟨h0, hc0⟩ := h0
      subst h0
      refine .inr (.inl ⟨hd, rfl, by rw [hsem]; exact hc0, ?_⟩)
      have e1 : (gE σ i).1 = { σ with servs := σ.servs.set i ⟨i1, i2, after j r, 0, i5, i6, i7⟩ } := by
        unfold gE
        rw [hx]
        simp only [hst, he, cond_true, show cT 0 2 = false from dY.2 (by omega), cond_false]
        rw [hx, ← hnx hd]
        simp only
        cases cT (eL j).1.at_ (aQ j.prog.length) <;> rfl
      show (kQ (gE σ i).1 i).1 = _
      rw [e1, vX (x := ⟨i1, i2, after j r, 0, i5, i6, i7⟩) (by show (σ.servs.set i _)[i]? = _; rw [List.getElem?_set, if_pos rfl, if_pos hi])]
      simp only
      rw [hfin]
      cases hJ : after j r with
      | nil => simp only [hset]
      | cons j' r' => rfl
  · have he : cT j.done j.cur.2 = false := dY.2 hd
    by_cases hs : i4 = 2
    · subst hs
      obtain ⟨q, l, q1, q2, q3, q4, _⟩ := yD h hx rfl
      have hq1 : j.cur.1 = (q : Int) + 1 := by rw [← hsem]; exact q1
      by_cases hh : i5 = l.most
      · refine .inr (.inr ⟨q, l, rfl, q1, q2, q3, q4, .inr ⟨hd, hh, ?_⟩⟩)
        obtain ⟨d1, d2, _⟩ := yE (a := ⟨i1, i2, r, 0, i5, i6, i7⟩) (b := fc ⟨i1, i2, j :: r, 2, i5, i6, i7⟩ r) true hx rfl (by rw [hfin]; cases r <;> rfl) q2 (wait q l q2 q3 q4)
        have e1 : (gE σ i).1 = (free { σ with servs := σ.servs.set i ⟨i1, i2, r, 0, i5, i6, i7⟩ } ((q : Int) + 1) true).1 := by
          unfold gE
          rw [hx]
          simp only [hst, he, cond_false, hq1, show cT 2 2 = true from eH.2 rfl, show ((q : Int) + 1 - 1).toNat = q by omega, q2, show cT i5 l.most = true from eH.2 hh, Bool.and_self, cond_true]
        show (kQ (gE σ i).1 i).1 = _
        rw [e1, vX d2]
        simp only
        rw [hfin] at d1 ⊢
        cases hJ : r with
        | nil => rw [hJ] at d1; exact d1
        | cons j' r' => rfl
      · refine .inl ⟨hd, fun q' l' _ hq' hl' => ?_, ?_⟩
        · have : q' = q := by have : (q' : Int) + 1 = q + 1 := by rw [← hq', ← q1]
                              omega
          subst this
          rw [q2] at hl'; cases hl'; exact hh
        · have e1 : (gE σ i).1 = σ := by
            unfold gE
            rw [hx]
            simp only [hst, he, cond_false, hq1, show ((q : Int) + 1 - 1).toNat = q by omega, q2, show cT i5 l.most = false from dY.2 hh, Bool.and_false]
          show (kQ (gE σ i).1 i).1 = _
          rw [e1, vX hx]
    · refine .inl ⟨hd, fun q l e => absurd e hs, ?_⟩
      have e1 : (gE σ i).1 = σ := by
        unfold gE
        rw [hx]
        simp only [hst, he, cond_false, show cT i4 2 = false from dY.2 hs, Bool.false_and]
      show (kQ (gE σ i).1 i).1 = _
      rw [e1, vX hx]
theorem BD (x : Serv) (J : List Job) : (fc x J).id = x.id ∧ (fc x J).sec = 0 ∧ (fc x J).jobs = J ∧ (fc x J).num = x.num ∧ (fc x J).ran = x.ran := by
  unfold fc; cases J <;> exact ⟨rfl, rfl, rfl, rfl, rfl⟩
theorem Gi {k : Nat} {x : Serv} {j : Job} {r J : List Job} (h : GoodV k x) (hjs : x.jobs = j :: r) (hi : Idl x) (hJ : J = r ∨ (j.done = j.cur.2 ∧ J = after j r)) : GoodV k (fc x J) ∧ Idl (fc x J) := by
  have hgj := h.jobs j (by rw [hjs]; exact gQ9 ..)
  have hlen := h.len
  rw [hjs] at hlen
  simp at hlen
  have hm : x.s.mode ≠ 0 := fun e => by have := hi.2 e; rw [hjs] at this; cases this
  have hr : ∀ y ∈ r, y.at_ = 0 ∧ y.done = 0 := fun y hy => h.rest y (by rw [hjs]; exact hy)
  have key : (∀ y ∈ J, GoodJ k y) ∧ J.length ≤ 8 ∧ (∀ y ∈ J.tail, y.at_ = 0 ∧ y.done = 0) ∧ (∀ y r', J = y :: r' → y.done = 0) := by
    have hR : (∀ y ∈ r, GoodJ k y) ∧ r.length ≤ 8 ∧ (∀ y ∈ r.tail, y.at_ = 0 ∧ y.done = 0) ∧ (∀ y r', r = y :: r' → y.done = 0) :=
      ⟨fun y hy => h.jobs y (by rw [hjs]; exact gQ5 _ hy), by omega, fun y hy => hr y (List.mem_of_mem_tail hy), fun y r' e => (hr y (by rw [e]; exact gQ9 ..)).2⟩
    rcases hJ with e | ⟨hd, e⟩
    · subst e; exact hR
    · unfold after at e
      by_cases hl : j.at_ + 1 = j.prog.length
      · rw [if_pos hl] at e; subst e; exact hR
      · rw [if_neg hl] at e; subst e
        obtain ⟨e1, e2⟩ := BC hgj hd
        have e2 := e2 hl
        rw [e1] at e2
        refine ⟨fun y hy => ?_, by simp; omega, fun y hy => hr y hy, fun y r' e => by cases e; rfl⟩
        rcases List.mem_cons.1 hy with e | hy
        · subst e; exact e2
        · exact hR.1 y hy
  obtain ⟨k1, k2, k3, k4⟩ := key
  obtain ⟨f1, f2, f3, f4, f5⟩ := BD x J
  have hid : (fc x J).s = if J = [] then (fL x.s).1 else x.s := by unfold fc; cases J <;> rfl
  refine ⟨⟨by rw [f1]; exact h.id1, by rw [f1]; exact h.id2, ?_, by rw [f3]; exact k2, by rw [f3]; exact k1, by rw [f3]; exact k3, .inl f2, fun _ _ => ?_⟩, ?_⟩
  · rw [hid]
    split
    · exact (BE h.s).1
    · exact h.s
  · unfold headDone
    rw [f3]
    cases hJ' : J with
    | nil => rfl
    | cons y r' => exact k4 y r' hJ'
  · unfold Idl
    rw [f3, hid]
    by_cases e : J = []
    · rw [if_pos e]
      exact ⟨fun _ => (BE h.s).2, fun _ => e⟩
    · rw [if_neg e]
      exact ⟨fun h => absurd h e, fun h => absurd h hm⟩
theorem Kt {B : Int} {σ : St} (h : Iv B σ) {i : Nat} {x : Serv} {j : Job} {r : List Job} (hx : σ.servs[i]? = some x) (hjs : x.jobs = j :: r) :
    Iv B (gw σ i).1 ∧ (gw σ i).1.m = σ.m ∧ (gw σ i).1.now = σ.now ∧ (gw σ i).1.backs = σ.backs ∧ (gw σ i).1.sems.length = σ.sems.length ∧ (gw σ i).1.servs.map (·.id) = σ.servs.map (·.id) ∧ (∀ k y, k ≠ i → σ.servs[k]? = some y → ∃ y', (gw σ i).1.servs[k]? = some y' ∧ Next y y') := by
  have hxm := gQ3 hx
  have hg := h.serv x hxm
  have hi := (gQ1 hx).1
  have hfix : ∀ J, (cT (fc x J).s.mode 1 && dT (fc x J).sec 0) = true → (cT x.s.mode 1 && dT x.sec 0) = true := fun J hb => by
    rw [(BD x J).2.1, fF.2 rfl, Bool.and_false] at hb; cases hb
  have rel : ∀ (q : Nat) (l : Lock) (t : Bool) (J : List Job), (J = r ∨ (j.done = j.cur.2 ∧ J = after j r)) → σ.sems[q]? = some l → l.holder = x.id → key x = (x.id, 2, (q : Int) + 1) →
      let τ := (free { σ with servs := σ.servs.set i (fc x J) } ((q : Int) + 1) t).1
      Iv B τ ∧ τ.m = σ.m ∧ τ.now = σ.now ∧ τ.backs = σ.backs ∧ τ.sems.length = σ.sems.length ∧ τ.servs.map (·.id) = σ.servs.map (·.id) ∧ (∀ k y, k ≠ i → σ.servs[k]? = some y → ∃ y', τ.servs[k]? = some y' ∧ Next y y') := by
    intro q l t J hJ hl hh hk τ
    obtain ⟨f1, f2, f3, f4, f5⟩ := BD x J
    obtain ⟨g1, g2⟩ := Gi hg hjs (h.idle x hxm) hJ
    obtain ⟨a1, a2, a3, a4, a5, a6, a7, a8⟩ := Pv (t := t) h.toIw hx hk hl hh f1 f2 g1 (by rw [f4]; exact h.num x hxm) (by rw [f5]; exact h.ran x hxm)
    refine ⟨{ toIw := by rw [a3]; exact a1, idle := fun y' hy' => ?_, fix := ?_ }, a2, a3, a4, a5, a6, a8⟩
    · obtain ⟨k, hk'⟩ := List.getElem?_of_mem hy'
      by_cases e : k = i
      · subst e
        rw [a7] at hk'; cases hk'; exact g2
      · have hlen : τ.servs.length = σ.servs.length := by have := congrArg List.length a6; simpa using this
        have hkl : k < σ.servs.length := by rw [← hlen]; exact (gQ1 hk').1
        obtain ⟨y2, b1, b2⟩ := a8 k _ e (gQ2 hkl)
        rw [hk'] at b1; cases b1
        have := h.idle _ (List.getElem_mem hkl)
        rcases b2 with e | ⟨_, e⟩
        · rw [e]; exact this
        · rw [e]; exact this
    · refine Int.le_trans (Int.ofNat_le.2 ?_) (by rw [a2]; exact h.fix)
      have e1 : pl.nfix ((ready (σ.servs.set i (fc x J))).map Serv.ent) ≤ fixed σ := pF hx (hfix J)
      refine Nat.le_trans ?_ e1
      cases hq : l.queue with
      | nil =>
        have : τ.servs = σ.servs.set i (fc x J) := by
          show (free { σ with servs := σ.servs.set i (fc x J) } ((q : Int) + 1) t).1.servs = _
          rw [wW (σ := { σ with servs := σ.servs.set i (fc x J) }) t hl hq]
        unfold fixed
        rw [this]
        exact gQ4 _
      | cons y r' =>
        obtain ⟨v, hv, hvid, hvs, _⟩ := uK h.toIw hl (y := y) (by rw [hq]; exact gQ9 ..)
        have hat : at_ (σ.servs.set i (fc x J)) y = at_ σ.servs y := nA (jH hx f1) y
        have hki : at_ σ.servs y ≠ i := fun e => by
          rw [e, hx] at hv; cases hv
          have := congrArg (·.2.1) hk
          unfold key at this
          simp at this; omega
        have hv' : (σ.servs.set i (fc x J))[at_ (σ.servs.set i (fc x J)) y]? = some v := by rw [hat, List.getElem?_set, if_neg (fun h => hki h.symm)]; exact hv
        have : τ.servs = (σ.servs.set i (fc x J)).set (at_ (σ.servs.set i (fc x J)) y) { v with sec := 2, held := 0 } := by
          show (free { σ with servs := σ.servs.set i (fc x J) } ((q : Int) + 1) t).1.servs = _
          rw [wX (σ := { σ with servs := σ.servs.set i (fc x J) }) t hl hq hv']
        unfold fixed
        rw [this]
        refine pF hv' (fun hb => ?_)
        simp only [Bool.and_eq_true] at hb ⊢
        exact ⟨hb.1, iw.2 (by omega)⟩
  rcases Pw h.toIw hx hjs with ⟨_, _, e⟩ | ⟨hd, hs, _, e⟩ | ⟨q, l, hs, hq, hl, hh, hk, ⟨hd, e⟩ | ⟨hd, _, e⟩⟩
  · rw [e]; exact ⟨h, rfl, rfl, rfl, rfl, rfl, fun k y _ hy => ⟨y, hy, .inl rfl⟩⟩
  · rw [e]
    obtain ⟨f1, f2, f3, f4, f5⟩ := BD x (after j r)
    obtain ⟨g1, g2⟩ := Gi hg hjs (h.idle x hxm) (.inr ⟨hd, rfl⟩)
    refine ⟨{ toIw := h.toIw.setS hx ?_ g1 (by rw [f4]; exact h.num x hxm) (by rw [f5]; exact h.ran x hxm), idle := fK h.idle g2, fix := Int.le_trans (Int.ofNat_le.2 (pF hx (hfix _))) h.fix }, rfl, rfl, rfl, rfl, jH hx f1, fun k y hk hy => ⟨y, ?_, .inl rfl⟩⟩
    · rw [wY f2, wY hs, f1]
    · show (σ.servs.set i _)[k]? = _
      rw [List.getElem?_set, if_neg (fun h => hk h.symm)]; exact hy
  · rw [e]; exact rel q l false _ (.inr ⟨hd, rfl⟩) hl hh hk
  · rw [e]; exact rel q l true _ (.inl rfl) hl hh hk
end Go.AX.pm
namespace Go.AX.pm
open Go.AX
theorem C4{B:Int}:∀{L:List Nat} {σ : St},Iv B σ->L.Nodup->(∀p∈L,∃x,σ.servs[p]? = some x/\x.jobs≠[])->
  Iv B (ends σ L).1/\(ends σ L).1.m = σ.m/\(ends σ L).1.now = σ.now/\(ends σ L).1.backs = σ.backs/\(ends σ L).1.sems.length = σ.sems.length/\(ends σ L).1.servs.map (·.id) = σ.servs.map (·.id)
 | [],σ,h,_,_=>⟨h,rfl,rfl,rfl,rfl,rfl⟩
 | i::r,σ,h,hn,hp=>by
  rw[List.nodup_cons]at hn;obtain⟨x,hx,hj⟩:=hp i (gQ9 ..);cases hjs:x.jobs with
  | nil=>exact absurd hjs hj
  | cons j js=>
   obtain⟨a1,a2,a3,a4,a5,a6,a7⟩:=Kt h hx hjs;obtain⟨b1,b2,b3,b4,b5,b6⟩:=C4 (L:=r) a1 hn.2 (fun p hpr=>by
    obtain⟨y,hy,hyj⟩:=hp p (gQ5 _ hpr);obtain⟨y',hy',hN⟩:=a7 p y (fun e=>hn.1 (e▸hpr)) hy;refine⟨y',hy',?_⟩;rcases hN with e|⟨_,e⟩
    ·rw[e];exact hyj
    ·rw[e];exact hyj)
   exact⟨b1,b2.trans a2,b3.trans a3,b4.trans a4,b5.trans a5,b6.trans a6⟩
theorem nt{B:Int}{σ : St}(h:Iv B σ)(ha:rk σ):Fw σ ((bm σ).map (at_ σ.servs)):=by
 refine⟨?_,fun p hp=>?_⟩
 .rw[List.Nodup,List.pairwise_map];refine(List.Pairwise.and_mem.1 (BI σ)).imp fun{a b} hab=>?_
  obtain⟨h1,h2,hne⟩:=hab;obtain⟨x,hx,rfl,_⟩:=jC h h1;obtain⟨y,hy,rfl,_⟩:=jC h h2;intro e;rw[e,hy]at hx;cases hx;exact hne rfl
 .obtain⟨id,hid,rfl⟩:=List.mem_map.1 hp;obtain⟨x,hx,rfl,hm,hj⟩:=jC h hid;exact⟨x,hx,hm,hj,ha x (gQ3 hx) hid⟩
noncomputable def fq(l:List Back)(n:Nat):List Back:=l.drop n++(l.take n).map fun b=>{ b with ran:=bh .i64 b.ran 1 }
theorem KA{l:List Back}{R:Int}(n:Nat)(hR:R<=4611686018427387904)(h:∀b∈l,1<=b.id/\b.id<=255/\0<=b.ran/\b.ran<=R)(hn:(l.map (·.id)).Nodup) :
  (fq l n).length=l.length/\(∀b∈fq l n,1<=b.id/\b.id<=255/\0<=b.ran/\b.ran<=R+1)/\((fq l n).map (·.id)).Nodup:=by
 unfold fq;refine⟨?_,fun b hb=>?_,?_⟩
 .rw[gR2,List.length_map,List.length_drop,List.length_take];omega
 .rcases List.mem_append.1 hb with hb|hb
  .have:=h b (List.mem_of_mem_drop hb);omega
  .obtain⟨c,hc,rfl⟩:=List.mem_map.1 hb;obtain⟨h1,h2,h3,h4⟩:=h c (List.mem_of_mem_take hc);refine⟨h1,h2,?_⟩;show 0<=bh .i64 c.ran 1/\bh .i64 c.ran 1<=R+1;rw[dN (by omega) (by omega)];omega
 .rw[List.map_append,List.map_map];have e:(List.take n l).map ((fun b:Back=>b.id)∘fun b=>{ b with ran:=bh .i64 b.ran 1 })=(List.take n l).map (·.id):=rfl;rw[e,<-List.map_append];have hp:(l.drop n++l.take n).Perm l:=List.perm_append_comm.trans (by rw[List.take_append_drop]);exact(hp.map _).nodup_iff.2 hn
theorem qM{σ : St}(h:σ.now<4611686018427387904):tick σ = (let a:=settle σ;let t:=runs a.1 ((bm a.1).map (at_ a.1.servs));let e:=ends { t with backs:=fq t.backs (fX a.1).length,now:=bh .i64 t.now 1 } ((bm a.1).map (at_ a.1.servs));(e.1,a.2++e.2,0)):=by
 unfold tick fq;rw[show leI qI σ.now=false from ki.2 h];rfl
theorem nR{B:Int}{σ : St}(h:Iv B σ):(settle σ).1.now = σ.now/\(settle σ).1.backs = σ.backs/\(settle σ).1.sems.length = σ.sems.length/\(settle σ).1.servs.map (·.id) = σ.servs.map (·.id):=by
 have h1:=nV (σ.servs.length+1) (qN h);have g:=(rG h1).2.1;have gen:∀(n:Nat) {τ : St},Iv B τ->(du n τ).1.now = τ.now/\(du n τ).1.backs = τ.backs/\(du n τ).1.sems = τ.sems/\(du n τ).1.servs.map (·.id) = τ.servs.map (·.id):=by
  intro n
  induction n with
  | zero=>intro τ _;exact⟨rfl,rfl,rfl,rfl⟩
  | succ n ih=>
   intro τ hτ;unfold du;split
   .exact⟨rfl,rfl,rfl,rfl⟩
   .rename_i σ' e hr;obtain⟨a,b,c,d⟩:=ih (uM hτ hr).1;obtain⟨p,hp,v,k,hv,_,_,e,_⟩:=jh hr;subst e;refine⟨a,b,c,d.trans ?_⟩;exact jH hv rfl
 obtain⟨a,b,c,d⟩:=gen (σ.servs.length+1) (qN h);refine⟨g.now.trans a,g.backs.trans b,g.sems.trans (by rw[c];rfl),(g.ids.trans d).trans ?_⟩;rw[<-oY,BK,oY]
theorem Gk{B:Int}{σ : St}(h:Iv B σ)(hn:σ.now<4611686018427387904){L:List Nat}(hL:Fw σ L)(n:Nat) :
  Iv B { runs σ L with backs:=fq (runs σ L).backs n,now:=bh .i64 (runs σ L).now 1 }/\bh .i64 (runs σ L).now 1 = σ.now+1:=by
 obtain⟨e1,e2,e3,e4,e5,e6⟩:=nU L σ hL.1;obtain⟨r1,r2,r3⟩:=Ou h hL;have h2:=h.now1;have en:bh .i64 (runs σ L).now 1 = σ.now+1:=by rw[e2,dN (by omega) (by omega)]
 have ht:=KA (l:=(runs σ L).backs) (R:=σ.now) n h.now2 (by rw[e4];exact h.back) (by rw[e4];exact h.bnd);rw[en];refine⟨?_,rfl⟩;refine { toIw:={ r1 with now1:=?_,now2:=?_,len3:=by rw[ht.1];exact r1.len3,back:=ht.2.1,bnd:=ht.2.2 },idle:=r2,fix:=by rw[show ({ runs σ L with backs:=fq (runs σ L).backs n,now:=σ.now+1 }:St).m = σ.m from e1];exact r3 }
 .show 0<=σ.now+1;omega
 .show σ.now+1<=_;omega
theorem DY{σ : St}{L:List Nat}(hL:Fw σ L):∀p∈L,∃x,(runs σ L).servs[p]? = some x/\x.jobs≠[]:=fun p hp=>by
 obtain⟨x,hx,hm,hj,_⟩:=hL.2 p hp;refine⟨gW x,?_,?_⟩
 .rw[(nU L σ hL.1).2.2.2.2.2,if_pos hp,hx];rfl
 .rw[nT];show jI x≠[];unfold jI;split
  .exact hj
  .split
   .rename_i e;exact absurd e hj
   .simp
theorem zA{B:Int}{σ : St}(h:Iv B σ):Iv B (tick σ).1/\(tick σ).1.m = σ.m/\(tick σ).1.sems.length = σ.sems.length/\((tick σ).1.now=if σ.now<4611686018427387904 then σ.now+1 else σ.now)/\((tick σ).2.2=if σ.now<4611686018427387904 then 0 else 6):=by
 by_cases hn:σ.now<4611686018427387904
 .rw[qM hn,if_pos hn,if_pos hn];simp only;obtain⟨s1,s2,s3⟩:=jD h;obtain⟨s4,s5,s6,s7⟩:=nR h;generalize (settle σ).1 = τ at s1 s2 s3 s4 s5 s6 s7;have hL:=nt s1 s2;obtain⟨u1,u2⟩:=Gk s1 (by rw[s4];exact hn) hL (fX τ).length;obtain⟨v1,v2,v3,v4,v5,v6⟩:=C4 (L:=(bm τ).map (at_ τ.servs)) u1 hL.1 (fun p hp=>DY hL p hp);obtain⟨e1,e2,e3,e4,e5,e6⟩:=nU _ τ hL.1;refine⟨v1,(v2.trans e1).trans s3,(v5.trans (by show (runs τ _).sems.length=_;rw[e3])).trans s6,(v3.trans u2).trans (by rw[s4]),trivial⟩
 .unfold tick;rw[show leI qI σ.now=true from fZ.2 (by show (4611686018427387904:Int)<=σ.now;omega),if_neg hn,if_neg hn];exact⟨h,rfl,rfl,rfl,rfl⟩
theorem Pz{m:Int}{most:List Int}(h:(new m most).2=0):Iv 0 (new m most).1/\new m most=(⟨m,0,[],most.map fun n=>⟨n,0,[],false⟩,[]⟩,0)/\1<=m/\m<=64/\most.length<=8/\∀n∈most,1<=n/\n<=1048576:=by
 unfold new at h ⊢;cases hc:(cR m 1 || (cR 64 m || (cR 8 (aQ most.length) || most.any qJ)))with
 | true=>rw[hc]at h;simp at h
 | false=>
  simp only[Bool.or_eq_false_iff,dW,fP,List.any_eq_false]at hc;obtain⟨h1,h2,h3,h4⟩:=hc;have h5:∀n∈most,1<=n/\n<=1048576:=fun n hn=>by
   have:=h4 n hn;unfold qJ at this;simp only[Bool.not_eq_true,Bool.or_eq_false_iff,dW]at this;exact this
  refine⟨?_,rfl,h1,h2,by omega,h5⟩;rw[cond_false];refine { m1:=h1,m2:=h2,now1:=Int.le_refl _,now2:=by simp,rise:=trivial,len1:=by simp,len2:=by simp;omega,len3:=by simp,serv:=fun x hx=>(by cases hx),num:=fun x hx=>(by cases hx),ran:=fun x hx=>(by cases hx),most:=fun l hl=>?_,lock:=fun q l hl=>?_,back:=fun b hb=>(by cases hb),bnd:=List.nodup_nil,idle:=fun x hx=>(by cases hx),fix:=by show ((0:Nat):Int)<=m;omega }
  .obtain⟨n,hn,rfl⟩:=List.mem_map.1 hl;exact h5 n hn
  .have hl:=gQ3 hl;obtain⟨n,hn,rfl⟩:=List.mem_map.1 hl;exact⟨List.nodup_nil,fun id=>⟨fun h=>(by cases h),fun h=>(by cases h)⟩,fun id=>⟨fun h=>absurd h.2.symm h.1,fun h=>(by cases h)⟩,fun _=>rfl⟩
theorem H4{l:List Serv}(hr:Rise l){id:Int}:has l id=true↔∃x∈l,x.id=id:=by
 unfold has;constructor
 .intro h;split at h
  .rename_i v hv;exact⟨v,gQ3 hv,eH.1 h⟩
  .cases h
 .rintro⟨x,hx,rfl⟩;rw[at_mem hr hx];exact eH.2 rfl
theorem BL{l:List Serv}(hr:Rise l){id:Int}(h:has l id=true):∃x,l[at_ l id]? = some x/\x.id=id:=by
 obtain⟨x,hx,rfl⟩:=(H4 hr).1 h;exact⟨x,at_mem hr hx,rfl⟩
theorem DZ:∀{l:List Serv} (n:Nat),Rise l->Rise (l.take n)
 | [],n,h=>by simp;exact trivial
 | x::r,0,h=>trivial
 | x::r,n+1,h=>⟨fun y hy=>h.1 y (List.mem_of_mem_take hy),DZ n h.2⟩
theorem D2:∀{l:List Serv} (n:Nat),Rise l->Rise (l.drop n)
 | [],n,h=>by simp;exact trivial
 | x::r,0,h=>h
 | x::r,n+1,h=>D2 n h.2
theorem zZ:∀{l k:List Serv},Rise l->Rise k->(∀x∈l,∀y∈k,x.id<y.id)->Rise (l++k)
 | [],k,_,h,_=>h
 | x::r,k,h,hk,hl=>⟨fun y hy=>by
   rcases List.mem_append.1 hy with h1|h1
   ·exact h.1 y h1
   ·exact hl x (gQ9 ..) y h1,zZ h.2 hk fun x hx=>hl x (gQ5 _ hx)⟩
theorem My{l:List Serv}(hr:Rise l){x:Serv}(hn:has l x.id=false):Rise (l.take (at_ l x.id)++x::l.drop (at_ l x.id)):=by
 have h1:∀y∈l.take (at_ l x.id),y.id<x.id:=fun y hy=>by
  obtain⟨i,hi⟩:=List.getElem?_of_mem hy;rw[List.getElem?_take]at hi;split at hi
  .rename_i hlt;exact IX hi hlt
  .cases hi
 have h2:∀y∈l.drop (at_ l x.id),x.id<y.id:=fun y hy=>by
  obtain⟨i,hi⟩:=List.getElem?_of_mem hy;rw[List.getElem?_drop]at hi;have:=IY hr hi (Nat.le_add_right _ _);have hne:y.id≠x.id:=fun e=>by
   have:has l x.id=true:=(H4 hr).2 ⟨y,List.mem_of_mem_drop hy,e⟩;rw[hn]at this;cases this
  omega
 refine zZ (DZ _ hr) ⟨h2,D2 _ hr⟩ fun y hy z hz=>?_
 rcases List.mem_cons.1 hz with e|hz
 .subst e;exact h1 y hy
 .have:=h1 y hy;have:=h2 z hz;omega
theorem C5{l:List Serv}{n:Nat}{x y:Serv}:y∈l.take n++x::l.drop n↔y=x∨y∈l:=by
 rw[List.mem_append,List.mem_cons];constructor
 .rintro(h|h|h)
  .exact .inr (List.mem_of_mem_take h)
  .exact .inl h
  .exact .inr (List.mem_of_mem_drop h)
 .rintro(h|h)
  .exact .inr (.inl h)
  .rw[<-List.take_append_drop n l,List.mem_append]at h;rcases h with h|h
   .exact .inl h
   .exact .inr (.inr h)
theorem LockOk.same{K K':List Key}{r:Nat}{l:Lock}(h:LockOk K r l)(hK:∀z:Key,z.2.2=(r:Int)+1->(z∈K'↔z∈K)):LockOk K' r l:=
 ⟨h.nd,fun id=>by rw[hK _ rfl];exact h.wait id,fun id=>by rw[hK _ rfl];exact h.hold id,h.free⟩
theorem PC{B:Int}{σ : St}(h:Iv B σ)(hB:0<=B)(id q p:Int):Iv B (add σ id q p).1/\(add σ id q p).1.m = σ.m/\(add σ id q p).1.now = σ.now/\(add σ id q p).1.sems = σ.sems:=by
 unfold add;cases h1:(cR id 1 || cR 255 id)with
 | true=>exact⟨h,rfl,rfl,rfl⟩
 | false=>
  simp only[Bool.or_eq_false_iff,dW]at h1;cases h2:has σ.servs id with
  | true=>exact⟨h,rfl,rfl,rfl⟩
  | false=>
   cases h3:leI 32 (aQ σ.servs.length)with
   | true=>exact⟨h,rfl,rfl,rfl⟩
   | false=>
    have h3:=ki.1 h3;simp only[fP]at h3;cases h4:dT (gi q p).2 0 with
    | true=>exact⟨h,rfl,rfl,rfl⟩
    | false=>
     obtain⟨c1,c2,c3⟩:=DT (fF.1 h4);simp only[cond_false];refine⟨?_,trivial,trivial,trivial⟩;generalize hx:(⟨id,(gi q p).1,[],0,0,0,0⟩:Serv)=x;have e0:x.id=id:=by rw[<-hx]
     have es:x.s=(gi q p).1:=by rw[<-hx]
     have ej:x.jobs=[]:=by rw[<-hx]
     have esec:x.sec=0:=by rw[<-hx]
     have en:x.num=0:=by rw[<-hx]
     have er:x.ran=0:=by rw[<-hx]
     have hs0:headSem x=0:=by unfold headSem;rw[ej]
     have hall:∀{p:Serv->Prop},(∀y∈σ.servs,p y)->p x->∀y∈σ.servs.take (at_ σ.servs id)++x::σ.servs.drop (at_ σ.servs id),p y:=fun ha hx y hy=>by
      rcases C5.1 hy with e|hy
      .rw[e];exact hx
      .exact ha y hy
     have hgood:GoodV σ.sems.length x:=⟨by rw[e0];exact h1.1,by rw[e0];exact h1.2,by rw[es];exact c1,by rw[ej];simp,fun j hj=>(by rw[ej]at hj;cases hj),fun j hj=>(by rw[ej]at hj;cases hj),.inl esec,fun _ hh=>(by rw[hs0]at hh;omega)⟩;have hlen:(σ.servs.take (at_ σ.servs id)++x::σ.servs.drop (at_ σ.servs id)).length = σ.servs.length+1:=by
      rw[gR2,List.length_cons,List.length_take,List.length_drop];have:=IZ σ.servs id;omega
     refine { h with rise:=by rw[<-e0]at h2 ⊢;exact My h.rise h2,len1:=by rw[hlen];omega,serv:=hall h.serv hgood,num:=hall h.num (by rw[en];omega),ran:=hall h.ran (by have:=h.now1;rw[er];exact⟨Int.le_refl _,this⟩),lock:=fun q' l hl=>?_,idle:=hall h.idle (by unfold Idl;rw[ej,es];exact⟨fun _=>c2,fun _=>rfl⟩),fix:=?_ }
     .refine(h.lock q' l hl).same fun z hz=>?_
      rw[List.mem_map,List.mem_map];constructor
      .rintro⟨y,hy,e⟩;rcases C5.1 hy with e'|hy
       .subst e';rw[wY esec]at e;rw[<-e]at hz;simp at hz;omega
       .exact⟨y,hy,e⟩
      .rintro⟨y,hy,e⟩;exact⟨y,C5.2 (.inr hy),e⟩
     .refine Int.le_trans (Int.ofNat_le.2 ?_) h.fix;unfold fixed;rw[nB,nB];show (σ.servs.take _++x::σ.servs.drop _).countP _<=_;rw[List.countP_append,List.countP_cons];have:(cT x.s.mode 1&&dT x.sec 0)=false:=by rw[esec,fF.2 rfl,Bool.and_false]
      rw[this];have e:=List.countP_append (p:=fun y:Serv=>(cT y.s.mode 1&&dT y.sec 0)) (l₁:=σ.servs.take (at_ σ.servs id)) (l₂:=σ.servs.drop (at_ σ.servs id));rw[List.take_append_drop]at e;rw[e];simp
theorem Ov{B:Int}{σ : St}(h:Iv B σ)(id:Int):Iv B (drop σ id).1/\(drop σ id).1.m = σ.m/\(drop σ id).1.now = σ.now/\(drop σ id).1.sems = σ.sems:=by
 unfold drop;cases h1:has σ.servs id with
 | false=>exact⟨h,rfl,rfl,rfl⟩
 | true=>
  obtain⟨x,hx,rfl⟩:=BL h.rise h1;rw[hx];simp only[Bool.not_true,cond_false];cases h2:x.idle with
  | false=>exact⟨h,rfl,rfl,rfl⟩
  | true=>
   simp only[Bool.not_true,cond_false];refine⟨?_,trivial,trivial,trivial⟩;generalize at_ σ.servs x.id=i at hx
   have hm:x.s.mode=0:=eH.1 h2;have hxm:=gQ3 hx;have hj:=(h.idle x hxm).2 hm;have hsec:x.sec=0:=by
    rcases(h.serv x hxm).sec with e|⟨_,e⟩
    .exact e
    .unfold headSem at e;rw[hj]at e;simp at e
   have hsub:(σ.servs.eraseIdx i).Sublist σ.servs:=List.eraseIdx_sublist ..;have hmem:∀y∈σ.servs,y=x∨y∈σ.servs.eraseIdx i:=fun y hy=>by
    obtain⟨j,hj⟩:=List.getElem?_of_mem hy;by_cases e:j=i
    .subst e;rw[hx]at hj;cases hj;exact .inl rfl
    .exact .inr (List.mem_eraseIdx_iff_getElem?.2 ⟨j,e,hj⟩)
   have hrise:∀{l k:List Serv},k.Sublist l->Rise l->Rise k:=by
    intro l k hs
    induction hs with
    | slnil=>exact fun h=>h
    | cons a _ ih=>exact fun h=>ih h.2
    | cons_cons a hs ih=>exact fun h=>⟨fun y hy=>h.1 y (hs.subset hy),ih h.2⟩
   refine { h with rise:=hrise hsub h.rise,len1:=Nat.le_trans hsub.length_le h.len1,serv:=fun y hy=>h.serv y (hsub.subset hy),num:=fun y hy=>h.num y (hsub.subset hy),ran:=fun y hy=>h.ran y (hsub.subset hy),lock:=fun q l hl=>?_,idle:=fun y hy=>h.idle y (hsub.subset hy),fix:=?_ }
   .refine(h.lock q l hl).same fun z hz=>?_
    rw[List.mem_map,List.mem_map];constructor
    .rintro⟨y,hy,e⟩;exact⟨y,hsub.subset hy,e⟩
    .rintro⟨y,hy,e⟩;rcases hmem y hy with e'|hy
     .subst e';rw[wY hsec]at e;rw[<-e]at hz;simp at hz;omega
     .exact⟨y,hy,e⟩
   .refine Int.le_trans (Int.ofNat_le.2 ?_) h.fix;unfold fixed;rw[nB,nB];exact hsub.countP_le ..
theorem I0{B:Int}{σ : St}(h:Iv B σ)(hB:B<4611686018427387904)(id:Int)(p:List Step):Iv (B+1) (release σ id p).1/\(release σ id p).1.m = σ.m/\(release σ id p).1.now = σ.now/\(release σ id p).1.sems = σ.sems:=by
 have h0:Iv (B+1) σ:=h.mono (by omega);unfold release;cases h1:has σ.servs id with
 | false=>exact⟨h0,rfl,rfl,rfl⟩
 | true=>
  simp only[Bool.not_true,cond_false];cases h2:qf p σ.sems.length with
  | false=>exact⟨h0,rfl,rfl,rfl⟩
  | true=>
   simp only[Bool.not_true,cond_false];obtain⟨x,hx,rfl⟩:=BL h.rise h1;rw[hx];simp only;generalize at_ σ.servs x.id=i at hx
   cases h3:leI 8 (aQ x.jobs.length)with
   | true=>exact⟨h0,rfl,rfl,rfl⟩
   | false=>
    have h3:=ki.1 h3;simp only[fP]at h3;simp only[cond_false];have hxm:=gQ3 hx;have hg:=h.serv x hxm;obtain⟨n1,n2⟩:=h.num x hxm;have en:bh .i64 x.num 1=x.num+1:=dN (by omega) (by omega);obtain⟨j1,j2⟩:=DW (n:=x.num+1) h2 (by omega);rw[en,j1];simp only;have hjobs:∀j∈x.jobs++[(⟨x.num+1,p,0,0⟩:Job)],GoodJ σ.sems.length j:=fun j hj=>by
     rcases List.mem_append.1 hj with h|h
     .exact hg.jobs j h
     .rw[List.mem_singleton.1 h];exact j2
    have hrest:∀j∈(x.jobs++[(⟨x.num+1,p,0,0⟩:Job)]).tail,j.at_=0/\j.done=0:=fun j hj=>by
     cases hjs:x.jobs with
     | nil=>rw[hjs]at hj;simp at hj
     | cons y r=>
      rw[hjs]at hj;simp only[List.cons_append,List.tail_cons,List.mem_append,List.mem_singleton]at hj;rcases hj with h|h
      .exact hg.rest j (by rw[hjs];exact h)
      .rw[h];exact⟨rfl,rfl⟩
    have hsame:x.jobs≠[]->headSem { x with num:=x.num+1,jobs:=x.jobs++[⟨x.num+1,p,0,0⟩] }=headSem x/\headDone { x with num:=x.num+1,jobs:=x.jobs++[⟨x.num+1,p,0,0⟩] }=headDone x:=fun hne=>by
     unfold headSem headDone;cases hjs:x.jobs with
     | nil=>exact absurd hjs hne
     | cons y r=>exact⟨rfl,rfl⟩
    cases h4:x.idle with
    | false=>
     have hm:x.s.mode≠0:=dY.1 h4;have hne:x.jobs≠[]:=fun e=>hm ((h.idle x hxm).1 e)
     obtain⟨s1,s2⟩:=hsame hne;simp only[Bool.not_false,cond_true];refine⟨{ toIw:=h0.toIw.setS hx ?_ ?_ ⟨by show 0<=x.num+1;omega,by show x.num+1<=B+1;omega⟩ (h.ran x hxm),idle:=fK h.idle ⟨fun e=>by simp at e,fun e=>absurd e hm⟩,fix:=Int.le_trans (Int.ofNat_le.2 (pF hx (fun hb=>hb))) h.fix },trivial,trivial,trivial⟩
     .unfold key;rw[s1]
     .exact { hg with len:=by show (x.jobs++_).length<=8;simp;omega,jobs:=hjobs,rest:=hrest,sec:=by rw[s1];exact hg.sec,done0:=by rw[s1,s2];exact hg.done0 }
    | true=>
     have hm:x.s.mode=0:=eH.1 h4;have hje:=(h.idle x hxm).2 hm;have hsec:x.sec=0:=by
      rcases hg.sec with e|⟨_,e⟩
      .exact e
      .unfold headSem at e;rw[hje]at e;simp at e
     simp only[Bool.not_true,cond_false];cases h5:dT (gz x.s σ.now).2 0 with
     | true=>exact⟨h0,rfl,rfl,rfl⟩
     | false=>
      simp only[cond_false];obtain⟨w1,w2⟩:=IV hg.s h.now1 h.now2 (fF.1 h5);refine⟨{ toIw:=h0.toIw.setS hx ?_ ?_ ⟨by show 0<=x.num+1;omega,by show x.num+1<=B+1;omega⟩ (h.ran x hxm),idle:=fK h.idle ⟨fun e=>by simp at e,fun e=>absurd e w2⟩,fix:=Int.le_trans (Int.ofNat_le.2 (pF hx (fun hb=>?_))) h.fix },trivial,trivial,trivial⟩
      .exact(wY (x:={ x with num:=x.num+1,jobs:=x.jobs++[⟨x.num+1,p,0,0⟩],s:=(gz x.s σ.now).1 }) hsec).trans (wY hsec).symm
      .refine { hg with s:=w1,len:=by show (x.jobs++_).length<=8;simp;omega,jobs:=hjobs,rest:=hrest,sec:=.inl hsec,done0:=fun _ _=>?_ };unfold headDone;simp only[hje,List.nil_append]
      .have hb:(cT (gz x.s σ.now).1.mode 1&&dT x.sec 0)=true:=hb;rw[hsec,fF.2 rfl,Bool.and_false]at hb;cases hb
theorem KB{B:Int}{σ : St}(h:Iv B σ)(id:Int)(on:Bool):Iv B (ia σ id on).1/\(ia σ id on).1.m = σ.m/\(ia σ id on).1.now = σ.now/\(ia σ id on).1.sems = σ.sems/\(ia σ id on).1.servs = σ.servs:=by
 unfold ia;cases h1:(cR id 1 || cR 255 id)with
 | true=>exact⟨h,rfl,rfl,rfl,rfl⟩
 | false=>
  simp only[Bool.or_eq_false_iff,dW]at h1;simp only[cond_false];cases on with
  | true=>
   cases hb:back σ.backs id with
   | some i=>exact⟨h,rfl,rfl,rfl,rfl⟩
   | none=>
    simp only;cases h3:leI 16 (aQ σ.backs.length)with
    | true=>exact⟨h,rfl,rfl,rfl,rfl⟩
    | false=>
     have h3:=ki.1 h3;simp only[fP]at h3;simp only[cond_false];refine⟨{ h with len3:=by show (σ.backs++_).length<=16;simp;omega,back:=fun b hb'=>?_,bnd:=?_ },trivial,trivial,trivial,trivial⟩
     .rcases List.mem_append.1 hb' with hb'|hb'
      .exact h.back b hb'
      .rw[List.mem_singleton.1 hb'];have:=h.now1;exact⟨h1.1,h1.2,Int.le_refl _,this⟩
     .show ((σ.backs++_).map (·.id)).Nodup;rw[List.map_append,List.nodup_append];refine⟨h.bnd,by simp,fun a ha b hb'=>?_⟩;simp at hb';subst hb';intro e;subst e;obtain⟨c,hc,e⟩:=List.mem_map.1 ha;unfold back at hb;rw[List.findIdx?_eq_none_iff]at hb;have:=hb c hc;rw[eH.2 e]at this;cases this
  | false=>
   cases hb:back σ.backs id with
   | none=>exact⟨h,rfl,rfl,rfl,rfl⟩
   | some i=>
    have hsub:(σ.backs.eraseIdx i).Sublist σ.backs:=List.eraseIdx_sublist ..;exact⟨{ h with len3:=Nat.le_trans hsub.length_le h.len3,back:=fun b hb'=>h.back b (hsub.subset hb'),bnd:=h.bnd.sublist (hsub.map _) },rfl,rfl,rfl,rfl⟩
end Go.AX.pm
namespace Go.AX
open Go
noncomputable section
section
variable {T:Tys} {wj wq:Nat->Kd} {m0 m m2 mo:Mem} {lam:Nat->Lb} {a1 a2 a3:Option Addr} {n1 c1 n2 c2 n3 c3:Nat} {ss:List SV} {js:Nat->List JV} {ls:List LV} {qs:Nat->List Int} {σ : pm.St}
theorem Ow.atB(h:Ow T wj wq m0 m lam a1 n1 c1 a2 n2 c2 a3 n3 c3 ss js ls qs σ){i:Nat}{x:pm.Back}(hx:σ.backs[i]? = some x) :
  ∃b o,a3=some ⟨b,o,none⟩/\lam b = .bk/\∀k u,(encB x)[k]? = some u->rd m b (o+Int.toNat (i:Int)*2+k)=some u:=by
 obtain⟨b,o,e,hc⟩:=(h.s3.arr fI h.s3n).2 i x hx;exact⟨b,o,e,h.s3l b (by rw[e];simp[blk]),fun k u hu=>by rw[Int.toNat_natCast];exact hc k u hu⟩
theorem Ow.setB(h:Ow T wj wq m0 m lam a1 n1 c1 a2 n2 c2 a3 n3 c3 ss js ls qs σ){b o i k:Nat}{x x':pm.Back}{vs:List Value}(hx:σ.backs[i]? = some x)(hab:a3=some ⟨b,o,none⟩)(hk:k+vs.length<=2)(he:over (encB x) k vs=encB x') :
  okW m b (o+Int.toNat (i:Int)*2+k) vs.length/\Ow T wj wq m0 (wr m b (o+Int.toNat (i:Int)*2+k) vs) lam a1 n1 c1 a2 n2 c2 a3 n3 c3 ss js ls qs { σ with backs:=σ.backs.set i x' }:=by
 have hw:=h.keep.wf;obtain⟨b',o',e,hok,hc⟩:=h.s3.set fI (by omega) h.s3n hx hk he (by have:=h.keep.fl;have:=h.fl0;omega);rw[hab]at e;cases e;refine⟨hok,?_⟩;have hlb:lam b = .bk:=h.s3l b (by rw[hab];simp[blk]);have hnb:m0.nx<=b:=h.new b (by rw[hlb];simp);have f:Fr m (wr m b (o+Int.toNat (i:Int)*2+k) vs) [b]:=(Fr.refl m _).wr (.inl (by simp));have ne:∀{b':Nat} {L:Lb},lam b'=L->L≠.bk->b'∉[b]:=fun e hn hs=>hn (by rw[<-e,List.mem_singleton.1 hs,hlb])
 have nb:∀b'∈[b],lam b'≠.pr:=fun b' hb'=>by rw[List.mem_singleton.1 hb',hlb];simp
 refine { h with keep:=h.keep.wr hnb,lab:=fun b hb=>by simpa using h.lab b hb,s3:=hc,s3n:=by show (σ.backs.set i x').length=n3;rw[List.length_set];exact h.s3n,s1:=h.s1.fr hw f (fun b hb=>ne (h.s1l b hb) (by simp)),s2:=h.s2.fr hw f (fun b hb=>ne (h.s2l b hb) (by simp)),jb:=fun k u hu=>?_,qu:=fun k u hu=>?_,ds:=fun j u x hu hx=>?_ }
 .exact(h.jb k u hu).fr hw f nb (fun b' hb'=>by rw[List.mem_singleton.1 hb',hlb];simp)
 .exact(h.qu k u hu).fr hw f nb (fun b' hb'=>by rw[List.mem_singleton.1 hb',hlb];simp)
 .obtain⟨p,q⟩:=h.ds j u x hu hx;exact⟨p,q.imp fun _ _ r=>r.fr hw f nb⟩
theorem Ow.newB(h:Ow T wj wq m0 m lam a1 n1 c1 a2 n2 c2 a3 n3 c3 ss js ls qs σ){a':Option Addr}{n' c':Nat}{l':List pm.Back}(k:Keep m m2)(ho:OwnSl mo m2 T.B a' n' c' (l'.flatMap encB))(hn:m.nx<=mo.nx)(hl:l'.length=n') :
  ∃lam',Ow T wj wq m0 m2 lam' a1 n1 c1 a2 n2 c2 a' n' c' ss js ls qs { σ with backs:=l' }/\(∀b,lam b≠.no->lam' b=lam b)/\(∀b,b<m.nx->lam' b=lam b):=by
 have h2:=h.then k;have hbl:∀b∈blk a',m.nx<=b/\b<m2.nx:=fun b hb=>⟨Nat.le_trans hn (ho.blk b hb),ho.lt k.wf b hb⟩
 have hnx:=h.keep.nx;have key:∀lam',(∀b∈blk a',lam' b = .bk)->Ow T wj wq m0 m2 lam' a1 n1 c1 a2 n2 c2 a3 n3 c3 ss js ls qs σ->Ow T wj wq m0 m2 lam' a1 n1 c1 a2 n2 c2 a' n' c' ss js ls qs { σ with backs:=l' }:=fun lam' hl' h'=>
  { h' with s3:=(ho.csl true).old (Nat.le_trans hnx hn),s3l:=hl',s3n:=hl }
 cases a' with
 | none=>exact⟨lam,key lam (fun b hb=>by cases hb) h2,fun b _=>rfl,fun b _=>rfl⟩
 | some ad=>
  obtain⟨q1,q2⟩:=hbl ad.block (by simp[blk]);have hno:lam ad.block = .no:=h.noNew q1;refine⟨il lam ad.block .bk,key _ (fun b hb=>?_) (h2.own hno q2),fun b hb=>?_,fun b hb=>?_⟩
  .simp[blk]at hb;subst hb;exact fy ..
  .rw[eV];intro e;subst e;exact hb hno
  .rw[eV];intro e;omega
theorem Ow.apartS{cx:Cx}{m':Mem}{S:List Nat}(h:Ow T wj wq m0 m lam a1 n1 c1 a2 n2 c2 a3 n3 c3 ss js ls qs σ)(f:Fr m m' S)(hS:∀b∈S,lam b = .sv)(hz:dO cx T.B=some 2) :
  All2 (RdServ m') ss σ.servs/\(∃ls,Arr encL 4 m' a2 n2 ls/\All2 (RdLock m') ls σ.sems)/\Arr encB 2 m' a3 n3 σ.backs/\Cut cx m' a3 n3 c3 2:=by
 have hw:=h.keep.wf;have ne:∀{b:Nat} {L:Lb},lam b=L->L≠.sv->b∉S:=fun e hn hs=>hn (by rw[<-e,hS _ hs])
 have nb:∀b'∈S,lam b'≠.pr:=fun b' hb'=>by rw[hS b' hb'];simp
 have h3:=h.s3.fr hw f (fun b hb=>ne (h.s3l b hb) (by simp));refine⟨All2.of (by rw[h.s1n,h.s1d]) fun i v x hv hx=>?_,⟨ls,(h.s2.fr hw f (fun b hb=>ne (h.s2l b hb) (by simp))).arr nz h.s2n,All2.of (by rw[h.s2n,h.s2d]) fun k v l hv hl=>?_⟩,h3.arr fI h.s3n,⟨by rw[h.s3.cap];exact gQ4 _,?_⟩⟩
 .obtain⟨p,q⟩:=h.ds i v x hv hx;exact⟨p.id,p.s,p.sec,p.held,p.num,p.ran,js i,((h.jb i v hv).fr hw f nb (fun b' hb'=>by rw[hS b' hb'];simp)).arr fh,q.imp fun _ _ r=>let r:=r.fr hw f nb;⟨r.num,r.at_,r.done,r.prog⟩⟩
 .obtain⟨p,q⟩:=h.dl k v l hv hl;exact⟨p.most,p.holder,p.dead,by rw[<-q];exact((h.qu k v hv).fr hw f nb (fun b' hb'=>by rw[hS b' hb'];simp)).arr dV⟩
 .generalize σ.backs.flatMap encB=L at h3;cases h3 with
  | nil=>exact .inl rfl
  | empty b cc h1 h2=>exact .inr ⟨b,0,_,rfl,h2,by unfold sameSize;rw[h2]⟩
  | row b n pre l hw h1 h2=>
   obtain⟨c',h3,_⟩:=id h2;exact .inr ⟨b,_,_,rfl,h3,h2.sameSize hz⟩
theorem Ow.apartB{m':Mem}{S:List Nat}(h:Ow T wj wq m0 m lam a1 n1 c1 a2 n2 c2 a3 n3 c3 ss js ls qs σ)(f:Fr m m' S)(hS:∀b∈S,lam b = .bk) :
  (∃ss,Arr encS 11 m' a1 n1 ss/\All2 (RdServ m') ss σ.servs)/\(∃ls,Arr encL 4 m' a2 n2 ls/\All2 (RdLock m') ls σ.sems):=by
 have hw:=h.keep.wf;have ne:∀{b:Nat} {L:Lb},lam b=L->L≠.bk->b∉S:=fun e hn hs=>hn (by rw[<-e,hS _ hs])
 have nb:∀b'∈S,lam b'≠.pr:=fun b' hb'=>by rw[hS b' hb'];simp
 refine⟨⟨ss,(h.s1.fr hw f (fun b hb=>ne (h.s1l b hb) (by simp))).arr fJ h.s1n,All2.of (by rw[h.s1n,h.s1d]) fun i v x hv hx=>?_⟩,⟨ls,(h.s2.fr hw f (fun b hb=>ne (h.s2l b hb) (by simp))).arr nz h.s2n,All2.of (by rw[h.s2n,h.s2d]) fun k v l hv hl=>?_⟩⟩
 .obtain⟨p,q⟩:=h.ds i v x hv hx;exact⟨p.id,p.s,p.sec,p.held,p.num,p.ran,js i,((h.jb i v hv).fr hw f nb (fun b' hb'=>by rw[hS b' hb'];simp)).arr fh,q.imp fun _ _ r=>let r:=r.fr hw f nb;⟨r.num,r.at_,r.done,r.prog⟩⟩
 .obtain⟨p,q⟩:=h.dl k v l hv hl;exact⟨p.most,p.holder,p.dead,by rw[<-q];exact((h.qu k v hv).fr hw f nb (fun b' hb'=>by rw[hS b' hb'];simp)).arr dV⟩
end
end
end Go.AX
namespace Go.AX.pm
open Go.AX
theorem KI{a p:Int}(ha:0<=a)(hp:1<=p):a<(a.tdiv p+1)*p/\(a.tdiv p+1)*p<=a+p/\0<=a.tdiv p/\a.tdiv p<=a:=by
 have h1:a.tdiv p=a / p:=Int.tdiv_eq_ediv_of_nonneg ha;rw[h1];have h2:=Int.emod_nonneg a (show p≠0 by omega);have h3:=Int.emod_lt_of_pos a (show 0<p by omega);have h4:=Int.mul_ediv_add_emod a p;have h5:(a / p+1)*p=p*(a / p)+p:=by rw[Int.add_mul,Int.mul_comm];simp
 have h6:0<=a / p:=Int.ediv_nonneg ha (by omega);have h7:a / p<=a:=Int.ediv_le_self _ ha;rw[h5];refine⟨by omega,by omega,h6,h7⟩
theorem PE{t d p r:Int}(hp:1<=p)(hp2:p<=2147483648)(h:kp t d p=(r,true)):t<r:=by
 unfold kp at h;cases hg:gy t&&(gy d&&sx p 1 2147483648)with
 | false=>rw[hg]at h;simp at h
 | true=>
  rw[hg,cond_true]at h;simp only[Bool.and_eq_true]at hg;have ht:=jB.1 hg.1;have hd:=jB.1 hg.2.1;cases hl:cR t d with
  | true=>rw[hl,cond_true]at h;cases h;exact gH.1 hl
  | false=>
   rw[hl,cond_false]at h;rw[dW]at hl;obtain⟨q1,q2,q3,q4⟩:=KI (a:=t-d) (p:=p) (by omega) hp;have e1:de .i64 t d=t-d:=eO (by omega) (by omega);have e2:ot .i64 (t-d) p=(t-d).tdiv p:=jN (by omega) (by omega);have e3:bh .i64 ((t-d).tdiv p) 1=(t-d).tdiv p+1:=dN (by omega) (by omega);have e4:io .i64 ((t-d).tdiv p+1) p=((t-d).tdiv p+1)*p:=CY (by omega) (by omega);have e5:bh .i64 d (((t-d).tdiv p+1)*p)=d+((t-d).tdiv p+1)*p:=dN (by omega) (by omega);rw[e1,e2,e3,e4,e5]at h;unfold rh at h;cases hz:gy (d+((t-d).tdiv p+1)*p)with
   | false=>rw[hz]at h;simp at h
   | true=>
    rw[hz,cond_true]at h;cases h;omega
theorem Hz{s:Srv}{now:Int}(h:CF s):dE (dE s now).1 now=((dE s now).1,false):=by
 cases hb:(dE s now).2 with
 | false=>
  rw[tG hb];exact Prod.ext (tG hb) hb
 | true=>
  unfold dE at hb;rw[gA.2 h]at hb;cases h1:(!true || (cT s.mode 0 || cR now s.due))with
  | true=>rw[h1]at hb;simp at hb
  | false=>
   rw[h1,cond_false]at hb;cases h2:(kp now s.due s.p).2 with
   | false=>rw[h2]at hb;simp at hb
   | true=>
    have e:(dE s now).1=ji { s with bud:=s.q,due:=(kp now s.due s.p).1 }:=by
     unfold dE;rw[gA.2 h,h1,cond_false,h2];rfl
    have hlt:=PE (r:=(kp now s.due s.p).1) h.p1 h.p2 (by rw[<-h2]);rw[e];have hd:(ji { s with bud:=s.q,due:=(kp now s.due s.p).1 }).due=(kp now s.due s.p).1:=by
     unfold ji;cases cT s.q 0<;>rfl
    unfold dE;rw[hd,gH.2 hlt,Bool.or_true,Bool.or_true];rfl
def fM(now:Int)(x:Serv):Prop:=ft now x=(x,false)
theorem Gs{k:Nat}{now:Int}{x:Serv}(h:GoodV k x):fM now (ft now x).1:=by
 unfold fM;unfold ft;cases hc:(x.idle || dT x.sec 0)with
 | true=>simp only[cond_true];rw[hc];rfl
 | false=>
  simp only[cond_false];cases hc2:(({ x with s:=(dE x.s now).1 }:Serv).idle || dT x.sec 0)with
  | true=>rfl
  | false=>simp only[cond_false];rw[Hz h.s]
theorem fM.sec{now:Int}{x:Serv}(h:x.sec≠0):fM now x:=by
 unfold fM ft;rw[iw.2 h,Bool.or_true];rfl
theorem fM.wait{k:Nat}{now:Int}{x:Serv}(hg:GoodV k x)(h:fM now x)(hm:x.s.mode=1):fM now { x with s:=(eS x.s).1 }:=by
 have hw:=BF hg.s hm;unfold fM ft at h ⊢;cases hs:dT x.sec 0 with
 | true=>simp[Bool.or_true]
 | false=>
  have hi:x.idle=false:=by unfold Serv.idle;rw[hm];exact dY.2 (by decide)
  rw[hi,hs]at h;simp only[Bool.or_false,cond_false,Prod.mk.injEq]at h;have hi2:({ x with s:=(eS x.s).1 }:Serv).idle=false:=by
   unfold Serv.idle eS;rw[gA.2 hg.s];cases hne:dT x.s.mode 1 with
   | true=>exact absurd hm (iw.1 hne)
   | false=>exact dY.2 (show (2:Int)≠0 by decide)
  rw[hi2];simp only[Bool.or_false,cond_false];have e:(dE (eS x.s).1 now).2=false:=by
   have ew:(eS x.s).1 = { x.s with mode:=2 }:=by
    unfold eS;rw[gA.2 hg.s];cases hne:dT x.s.mode 1 with
    | true=>exact absurd hm (iw.1 hne)
    | false=>rfl
   have h2:=h.2;have hg2:ka (eS x.s).1=true:=gA.2 hw.1;rw[ew]at hg2 ⊢;unfold dE at h2 ⊢;rw[gA.2 hg.s]at h2;rw[hg2];have em:cT x.s.mode 0=false:=dY.2 (by omega);rw[em]at h2;simp only[Bool.not_true,Bool.false_or]at h2 ⊢;rw[show cT (2:Int) 0=false from dY.2 (by decide)];simp only[Bool.false_or];cases hl:cR now x.s.due with
   | true=>rfl
   | false=>
    rw[hl]at h2;simp only[cond_false]at h2 ⊢;cases ht:(kp now x.s.due x.s.p).2 with
    | false=>rfl
    | true=>rw[ht]at h2;simp at h2
  rw[tG e,e]
theorem I8{σ : St}(h:∀x∈σ.servs,fM σ.now x):fm σ = σ/\lT σ = []:=by
 have e:σ.servs.map (fun v=>(ft σ.now v).1) = σ.servs:=by
  refine(List.map_congr_left fun x hx=>?_).trans (List.map_id _);rw[h x hx];rfl
 refine⟨?_,?_⟩
 .unfold fm;rw[e]
 .unfold lT;rw[List.filterMap_eq_nil_iff];intro x hx;rw[h x hx];rfl
theorem EX{B:Int}{σ σ':St}{e:Ev}(h:Iv B σ)(ht:∀x∈σ.servs,fM σ.now x)(hr:refuse σ = some (σ',e)):(∀x∈σ'.servs,fM σ'.now x)/\σ'.now = σ.now:=by
 obtain⟨p,hp,v,k,h1,h2,_,rfl,_⟩:=jh hr;obtain⟨x,a,b,c,_⟩:=qK h hp;rw[h1]at a;cases a;have hx:=gQ3 h1;exact⟨fK ht ((ht _ hx).wait (h.serv _ hx) c),rfl⟩
theorem vY{B:Int}:∀(n:Nat) {σ : St},Iv B σ->(∀x∈σ.servs,fM σ.now x)->(∀x∈(du n σ).1.servs,fM (du n σ).1.now x)
 | 0,_,_,ht=>ht
 | n+1,σ,h,ht=>by
  unfold du;cases hr:refuse σ with
  | none=>exact ht
  | some p=>
   obtain⟨σ',e⟩:=p;obtain⟨a,b⟩:=EX h ht hr;exact vY n (uM h hr).1 a
theorem oQ{B:Int}{σ : St}(h:Iv B σ):∀x∈(settle σ).1.servs,fM (settle σ).1.now x:=by
 have h1:=qN h;have t1:∀x∈(fm σ).servs,fM (fm σ).now x:=by
  intro x hx;obtain⟨y,hy,rfl⟩:=List.mem_map.1 hx;exact Gs (h.serv y hy)
 have t2:=vY (σ.servs.length+1) h1 t1;have h2:=nV (σ.servs.length+1) h1;show ∀x∈(eF (du (σ.servs.length+1) (fm σ)).1 (asks (du (σ.servs.length+1) (fm σ)).1)).1.servs,fM (eF (du (σ.servs.length+1) (fm σ)).1 (asks (du (σ.servs.length+1) (fm σ)).1)).1.now x;generalize (du (σ.servs.length+1) (fm σ)).1 = τ at t2 h2;obtain⟨_,g2,_⟩:=rG h2;have ha:=vu h2 g2;intro x' hx';obtain⟨i,hi⟩:=List.getElem?_of_mem hx';obtain⟨x,hx,hR⟩:=ha.get' hi;rcases hR.2.2.2.2.2 with e|⟨_,_,h5,_⟩
 .subst e;rw[g2.now];exact t2 _ (gQ3 hx)
 .exact fM.sec h5
theorem KN{B:Int}{σ : St}(h:Iv B σ)(ha:rk σ):asks σ = []:=by
 rw[List.eq_nil_iff_forall_not_mem];intro p hp;obtain⟨x,a,b,_,c,d,e,_⟩:=qK h hp;have:=ha x (gQ3 a) b c;omega
theorem yJ{B:Int}{σ : St}(h:Iv B σ)(ha:rk σ)(ht:∀x∈σ.servs,fM σ.now x):settle σ = (σ,[]):=by
 obtain⟨e1,e2⟩:=I8 ht;have e3:=KN h ha;have e4:du (σ.servs.length+1) σ = (σ,[]):=by
  unfold du refuse;rw[e3];rfl
 unfold settle;simp only[e1,e2,e4,e3];rfl
theorem EY{B:Int}{σ : St}(h:Iv B σ):settle (settle σ).1=((settle σ).1,[]):=
 yJ (jD h).1 (jD h).2.1 (oQ h)
theorem Aa{B:Int}{σ : St}(h:Iv B σ)(hn:σ.now<4611686018427387904):(tick σ).1=(tick (settle σ).1).1/\(tick σ).2.1=(settle σ).2++(tick (settle σ).1).2.1/\(tick σ).2.2=0/\(tick (settle σ).1).2.2=0:=by
 have hn2:(settle σ).1.now<4611686018427387904:=by rw[(nR h).1];exact hn
 rw[qM hn,qM hn2];simp only[EY h];exact⟨trivial,by simp,trivial,trivial⟩
end Go.AX.pm
namespace Go.AX.pm
open Go.AX
noncomputable section
structure Act where
 op:Int
 who:Int
 q:Int
 p:Int
 n:Int
 steps:List Step
def dK:Nat->St->St
 | 0,s=>s
 | k+1,s=>(tick (dK k s)).1
theorem lU{B:Int}{σ : St}(h:Iv B σ):∀k,Iv B (dK k σ)/\(dK k σ).m = σ.m/\(dK k σ).sems.length = σ.sems.length/\σ.now<=(dK k σ).now/\(dK k σ).now<=σ.now+k
 | 0=>⟨h,rfl,rfl,Int.le_refl _,by show σ.now<=_;omega⟩
 | k+1=>by
  obtain⟨a,b,c,d,e⟩:=lU h k;obtain⟨a',b',c',d',_⟩:=zA a;refine⟨a',b'.trans b,c'.trans c,?_,?_⟩
  .show _<=(tick (dK k σ)).1.now;rw[d'];split<;>omega
  .show (tick (dK k σ)).1.now<=_;rw[d'];split<;>omega
theorem ri{B:Int}{σ : St}(h:Iv B σ):(settle σ).1.now = σ.now:=(nR h).1
end
end Go.AX.pm
namespace Go.AX.pm
open Go.AX
noncomputable section
def HO(x:Serv):Prop:=0<=x.held/\x.held<=x.ran
def Hd(s:St):Prop:=∀x∈s.servs,HO x
theorem HO.of{x x':Serv}(h:HO x)(a:x'.held=x.held)(b:x'.ran=x.ran):HO x':=by unfold HO at *;rw[a,b];exact h
theorem HO.zero{x x':Serv}(h:HO x)(a:x'.held=0)(b:x'.ran=x.ran):HO x':=by unfold HO at *;rw[a,b];omega
theorem Hd.set{s:St}(h:Hd s){i:Nat}{x:Serv}(hx:HO x):∀y∈s.servs.set i x,HO y:=fK h hx
theorem Hd.at{s:St}(h:Hd s){i:Nat}{x:Serv}(hx:s.servs[i]? = some x):HO x:=h x (gQ3 hx)
theorem Mx{s:St}(h:Hd s):Hd (fm s):=fun x hx=>by
 obtain⟨y,hy,rfl⟩:=List.mem_map.1 hx;obtain⟨_,_,b,_,_,a⟩:=wZ s.now y;exact(h y hy).of a b
theorem Kx{s s':St}{e:Ev}(h:Hd s)(hr:refuse s=some (s',e)):Hd s':=by
 obtain⟨p,hp,v,k,h1,h2,_,rfl,_⟩:=jh hr;exact h.set ((h.at h1).of rfl rfl)
theorem BJ:∀(n:Nat) {s:St},Hd s->Hd (du n s).1
 | 0,_,h=>h
 | n+1,s,h=>by
  unfold du;cases hr:refuse s with
  | none=>exact h
  | some p=>
   obtain⟨s',e⟩:=p;exact BJ n (Kx h hr)
theorem Ky{s:St}(h:Hd s)(i:Nat)(q:Int):Hd (eU s i q).1:=by
 unfold eU;split
 .rename_i v l h1 h2;cases dT l.holder 0 with
  | true=>exact h.set ((h.at h1).of rfl rfl)
  | false=>exact h.set ((h.at h1).zero rfl rfl)
 .exact h
theorem DX:∀(L:List (Nat×Int)) {s:St},Hd s->Hd (eF s L).1
 | [],_,h=>h
 | (i,q)::r,s,h=>DX r (Ky h i q)
theorem uL{s:St}(h:Hd s):Hd (settle s).1:=DX _ (BJ _ (Mx h))
theorem H2{s:St}(h:Hd s)(q:Int)(t:Bool):Hd (free s q t).1:=by
 unfold free;split
 .exact h
 .split
  .exact h
  .split
   .exact h
   .rename_i v hv;exact h.set ((h.at hv).zero rfl rfl)
theorem On{s:St}(h:Hd s)(i:Nat):Hd (gE s i).1:=by
 unfold gE;split
 .exact h
 .rename_i v hv;have hV:=h.at hv;split
  .exact h
  .rename_i j r hj;simp only;have key:∀a:St×List Ev,Hd a.1->Hd (match a.1.servs[i]? with
    | none=>a
    | some w=>bif cT (eL j).1.at_ (aQ j.prog.length) then ({ a.1 with servs:=a.1.servs.set i { w with jobs:=r } },a.2++[dS s 2 w.id j.num])
     else ({ a.1 with servs:=a.1.servs.set i { w with jobs:=(eL j).1::r } },a.2)).1:=by
    intro a ha;split
    .exact ha
    .rename_i w hw;cases cT (eL j).1.at_ (aQ j.prog.length)with
     | true=>exact ha.set ((ha.at hw).of rfl rfl)
     | false=>exact ha.set ((ha.at hw).of rfl rfl)
   cases cT j.done (dI j).1.2 with
   | true=>
    simp only[cond_true];refine key _ ?_;cases cT v.sec 2 with
    | true=>exact H2 (s:={ s with servs:=s.servs.set i { v with sec:=0 } }) (h.set (hV.of rfl rfl)) _ _
    | false=>exact h
   | false=>
    simp only[cond_false];cases (cT v.sec 2&&(match s.sems[((dI j).1.1-1).toNat]? with|some l=>cT v.held l.most|none=>false))with
    | true=>exact H2 (s:={ s with servs:=s.servs.set i { v with jobs:=r,sec:=0 } }) (h.set (hV.of rfl rfl)) _ _
    | false=>exact h
theorem Oo{s:St}(h:Hd s)(i:Nat):Hd (kQ s i).1:=by
 unfold kQ;split
 .exact h
 .rename_i v hv;split
  .exact h.set ((h.at hv).of rfl rfl)
  .exact h
theorem H3:∀(l:List Nat) {s:St},Hd s->Hd (ends s l).1
 | [],_,h=>h
 | i::r,s,h=>H3 r (Oo (On h i) i)
theorem Oq{R:Int}{x:Serv}(h:HO x)(hR:x.ran<=R)(hR2:R<=4611686018427387904):HO (gW x):=by
 unfold HO at *;have e1:bh .i64 x.ran 1=x.ran+1:=dN (by omega) (by omega);have e2:bh .i64 x.held 1=x.held+1:=dN (by omega) (by omega);rw[nT];show 0<=qL x/\qL x<=bh .i64 x.ran 1;rw[e1];unfold qL;split
 .omega
 .split
  .omega
  .cases cT x.sec 2 with
   | true=>simp only[cond_true,e2];omega
   | false=>simp only[cond_false];omega
theorem C3{B:Int}{s:St}(hI:Iv B s)(h:Hd s):Hd (tick s).1:=by
 by_cases hn:s.now<4611686018427387904
 .rw[qM hn];simp only;obtain⟨s1,s2,s3⟩:=jD hI;have hS:=uL h;have hL:=nt s1 s2;have hn2:=s1.now2;refine H3 _ ?_;intro x hx;obtain⟨j,hj⟩:=List.getElem?_of_mem hx;have hj':(runs (settle s).1 ((bm (settle s).1).map (at_ (settle s).1.servs))).servs[j]? = some x:=hj;rw[(nU _ _ hL.1).2.2.2.2.2]at hj';split at hj'
  .obtain⟨y,hy,rfl⟩:=Option.map_eq_some_iff.1 hj';exact Oq (hS.at hy) (s1.ran y (gQ3 hy)).2 hn2
  .exact hS.at hj'
 .unfold tick;rw[show leI qI s.now=true from fZ.2 (by show (4611686018427387904:Int)<=s.now;omega)];exact h
theorem tH{B:Int}{s:St}(hI:Iv B s)(h:Hd s):∀k,Hd (dK k s)
 | 0=>h
 | k+1=>C3 (lU hI k).1 (tH hI h k)
theorem Px{s:St}(h:Hd s)(id q p:Int):Hd (add s id q p).1:=by
 unfold add;cases (cR id 1 || cR 255 id)with
 | true=>exact h
 | false=>
 cases has s.servs id with
 | true=>exact h
 | false=>
 cases leI 32 (aQ s.servs.length)with
 | true=>exact h
 | false=>
 cases dT (gi q p).2 0 with
 | true=>exact h
 | false=>
  intro x hx;rcases List.mem_append.1 hx with hx|hx
  .exact h x (List.mem_of_mem_take hx)
  .rcases List.mem_cons.1 hx with rfl|hx
   .exact⟨Int.le_refl _,Int.le_refl _⟩
   .exact h x (List.mem_of_mem_drop hx)
theorem Ot{s:St}(h:Hd s)(id:Int):Hd (drop s id).1:=by
 unfold drop;cases (!has s.servs id)with
 | true=>exact h
 | false=>
  simp only[cond_false];split
  .exact h
  .rename_i v hv;cases (!v.idle)with
   | true=>exact h
   | false=>exact fun x hx=>h x (List.mem_of_mem_eraseIdx hx)
theorem IW{s:St}(h:Hd s)(id:Int)(p:List Step):Hd (release s id p).1:=by
 unfold release;cases (!has s.servs id)with
 | true=>exact h
 | false=>
 cases (!qf p s.sems.length)with
 | true=>exact h
 | false=>
  simp only[cond_false];split
  .exact h
  .rename_i v hv;cases leI 8 (aQ v.jobs.length)with
   | true=>exact h
   | false=>
    simp only[cond_false];cases (!v.idle)with
    | true=>exact h.set ((h.at hv).of rfl rfl)
    | false=>
     simp only[cond_false];cases dT (gz v.s s.now).2 0 with
     | true=>exact h
     | false=>exact h.set ((h.at hv).of rfl rfl)
theorem Kz{s:St}(h:Hd s)(id:Int)(on:Bool):Hd (ia s id on).1:=by
 unfold ia;cases (cR id 1 || cR 255 id)with
 | true=>exact h
 | false=>
  cases on<;>cases back s.backs id
  .exact h
  .exact h
  .simp only[cond_false];cases leI 16 (aQ s.backs.length)<;>exact h
  .exact h
theorem Py(m:Int)(most:List Int):Hd (new m most).1:=by
 unfold new;intro x hx;revert hx;cases (cR m 1 || (cR 64 m || (cR 8 (aQ most.length) || most.any qJ)))<;>intro hx<;>cases hx
end
end Go.AX.pm
