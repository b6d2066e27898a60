import Derived.Test.YthpnifigjfplbaaGreatQF25
import Derived.Test.YthpnifigjfplbaaGreatQF24
set_option linter.unusedSimpArgs false
set_option linter.unusedVariables false
set_option linter.unusedSectionVars false
namespace Go.AX.pm
open Go.AX
noncomputable def eQ (x : Serv) (J : List Job) : Serv := match J with
  | [] => { x with sec := 0, jobs := [], s := (fq x.s).1 }
  | j :: r => { x with sec := 0, jobs := j :: r }
theorem wL {σ : St} {i q : Nat} {x a b : Serv} {l : Lock} (t : Bool) (hx : σ.servs[i]? = some x) (ha : a.id = x.id) (hb : b.id = x.id) (hl : σ.sems[q]? = some l) (hne : ∀ y r, l.queue = y :: r → at_ σ.servs y ≠ i ∧ ∃ v, σ.servs[at_ σ.servs y]? = some v) :
    ({ (free { σ with servs := σ.servs.set i a } ((q : Int) + 1) t).1 with servs := (free { σ with servs := σ.servs.set i a } ((q : Int) + 1) t).1.servs.set i b } : St) = (free { σ with servs := σ.servs.set i b } ((q : Int) + 1) t).1 ∧
    (free { σ with servs := σ.servs.set i a } ((q : Int) + 1) t).1.servs[i]? = some a ∧ (free { σ with servs := σ.servs.set i a } ((q : Int) + 1) t).2 = (free { σ with servs := σ.servs.set i b } ((q : Int) + 1) t).2 := by
  have hi := (List.getElem?_eq_some_iff.1 hx).1
  cases hq : l.queue with
  | nil =>
    rw [uW (σ := { σ with servs := σ.servs.set i a }) t hl hq, uW (σ := { σ with servs := σ.servs.set i b }) t hl hq]
    refine ⟨?_, ?_, rfl⟩
    · simp only [List.set_set]
    · show (σ.servs.set i a)[i]? = _
      rw [List.getElem?_set, if_pos rfl, if_pos hi]
  | cons y r =>
    obtain ⟨h1, v, hv⟩ := hne y r hq
    have ea : at_ (σ.servs.set i a) y = at_ σ.servs y := mq (iV hx ha) y
    have eb : at_ (σ.servs.set i b) y = at_ σ.servs y := mq (iV hx hb) y
    have va : (σ.servs.set i a)[at_ (σ.servs.set i a) y]? = some v := by rw [ea, List.getElem?_set, if_neg (fun h => h1 h.symm)]; exact hv
    have vb : (σ.servs.set i b)[at_ (σ.servs.set i b) y]? = some v := by rw [eb, List.getElem?_set, if_neg (fun h => h1 h.symm)]; exact hv
    rw [uX (σ := { σ with servs := σ.servs.set i a }) t hl hq va, uX (σ := { σ with servs := σ.servs.set i b }) t hl hq vb]
    simp only [ea, eb]
    refine ⟨?_, ?_, rfl⟩
    · congr 1
      rw [List.set_comm _ _ (fun h => h1 h), List.set_set]
    · rw [List.getElem?_set, if_neg h1, List.getElem?_set, if_pos rfl, if_pos hi]
theorem uf {σ : St} {i : Nat} {x : Serv} (hx : σ.servs[i]? = some x) : (lM σ i).1 = match x.jobs with
    | [] => { σ with servs := σ.servs.set i { x with s := (fq x.s).1 } }
    | _ :: _ => σ := by
  unfold lM
  rw [hx]
  simp only
  cases x.jobs <;> rfl
noncomputable def after (j : Job) (r : List Job) : List Job := if j.at_ + 1 = j.prog.length then r else { j with at_ := j.at_ + 1, done := 0 } :: r
theorem MH {B R : Int} {σ : St} (h : Iw B R σ) {i : Nat} {x : Serv} {j : Job} {r : List Job} (hx : σ.servs[i]? = some x) (hjs : x.jobs = j :: r) :
    (j.done ≠ j.cur.2 ∧ (∀ q l, x.sec = 2 → headSem x = ((q : Nat) : Int) + 1 → σ.sems[q]? = some l → x.held ≠ l.most) ∧ (gn σ i).1 = σ) ∨
    (j.done = j.cur.2 ∧ x.sec = 0 ∧ headSem x ≤ 0 ∧ (gn σ i).1 = { σ with servs := σ.servs.set i (eQ x (after j r)) }) ∨
    (∃ q l, x.sec = 2 ∧ headSem x = ((q : Nat) : Int) + 1 ∧ σ.sems[q]? = some l ∧ l.holder = x.id ∧ key x = (x.id, 2, (q : Int) + 1) ∧
      ((j.done = j.cur.2 ∧ (gn σ i).1 = (free { σ with servs := σ.servs.set i (eQ x (after j r)) } ((q : Int) + 1) false).1) ∨
       (j.done ≠ j.cur.2 ∧ x.held = l.most ∧ (gn σ i).1 = (free { σ with servs := σ.servs.set i (eQ x r) } ((q : Int) + 1) true).1))) := by
  have hxm := List.mem_of_getElem? hx
  have hg := h.serv x hxm
  have hgj := hg.jobs j (by rw [hjs]; exact List.mem_cons_self ..)
  have hst := hgj.step
  have hsem : headSem x = j.cur.1 := by unfold headSem; rw [hjs]
  have hi := (List.getElem?_eq_some_iff.1 hx).1
  have hset : ∀ (s : List Serv) (a b : Serv), (s.set i a).set i b = s.set i b := fun s a b => List.set_set ..
  have hnx : j.done = j.cur.2 → (bif cT (eJ j).1.at_ (am j.prog.length) then r else (eJ j).1 :: r) = after j r := fun hd => by
    obtain ⟨e, _⟩ := zU hgj hd
    unfold after
    rw [e]
    by_cases hl : j.at_ + 1 = j.prog.length
    · rw [if_pos hl, show cT (j.at_ + 1) (am j.prog.length) = true from eK.2 hl]; rfl
    · rw [if_neg hl, show cT (j.at_ + 1) (am j.prog.length) = false from dP.2 hl]; rfl
  have hfin : ∀ J : List Job, eQ x J = (match J with | [] => { ({ x with sec := 0, jobs := J } : Serv) with s := (fq x.s).1 } | _ :: _ => { x with sec := 0, jobs := J }) := fun J => by
    unfold eQ; cases J <;> rfl
  have wait : ∀ (q : Nat) (l : Lock), σ.sems[q]? = some l → l.holder = x.id → key x = (x.id, 2, (q : Int) + 1) → ∀ y r', l.queue = y :: r' → at_ σ.servs y ≠ i ∧ ∃ v, σ.servs[at_ σ.servs y]? = some v := fun q l hl hh hk y r' hq => by
    obtain ⟨v, hv, hvid, hvs, _⟩ := sU h hl (y := y) (by rw [hq]; exact List.mem_cons_self ..)
    refine ⟨fun e => ?_, v, hv⟩
    rw [e, hx] at hv; cases hv
    have := congrArg (·.2.1) hk
    unfold key at this
    simp at this; omega
  obtain ⟨i1, i2, i3, i4, i5, i6, i7⟩ := x
  simp only at hjs hsem hfin
  subst hjs
  by_cases hd : j.done = j.cur.2
  · have he : cT j.done j.cur.2 = true := eK.2 hd
    by_cases hs : i4 = 2
    · subst hs
      obtain ⟨q, l, q1, q2, q3, q4, _⟩ := wK h hx rfl
      have hq1 : j.cur.1 = (q : Int) + 1 := by rw [← hsem]; exact q1
      refine .inr (.inr ⟨q, l, rfl, q1, q2, q3, q4, .inl ⟨hd, ?_⟩⟩)
      obtain ⟨c1, c2, _⟩ := wL (a := ⟨i1, i2, j :: r, 0, i5, i6, i7⟩) (b := ⟨i1, i2, after j r, 0, i5, i6, i7⟩) false hx rfl rfl q2 (wait q l q2 q3 q4)
      obtain ⟨d1, d2, _⟩ := wL (a := ⟨i1, i2, after j r, 0, i5, i6, i7⟩) (b := eQ ⟨i1, i2, j :: r, 2, i5, i6, i7⟩ (after j r)) false hx rfl (by rw [hfin]; cases after j r <;> rfl) q2 (wait q l q2 q3 q4)
      have e1 : (gT σ i).1 = (free { σ with servs := σ.servs.set i ⟨i1, i2, after j r, 0, i5, i6, i7⟩ } ((q : Int) + 1) false).1 := by
        unfold gT
        rw [hx]
        simp only [hst, he, cond_true, hq1, show cT 2 2 = true from eK.2 rfl]
        rw [c2, ← c1, ← hnx hd]
        simp only
        cases cT (eJ j).1.at_ (am j.prog.length) <;> rfl
      show (lM (gT σ i).1 i).1 = _
      rw [e1, uf d2]
      simp only
      rw [hfin] at d1 ⊢
      cases hJ : after j r with
      | nil => rw [hJ] at d1; exact d1
      | cons j' r' => rfl
    · have h0 : i4 = 0 ∧ j.cur.1 ≤ 0 := by
        have hd0 := hg.done0 hs
        have c1 := hgj.cur.2.2.1
        have : ¬ (1 ≤ j.cur.1) := fun h1 => by
          have := hd0 (by rw [hsem]; exact h1)
          unfold headDone at this
          simp at this; omega
        rcases hg.sec with e | ⟨_, e⟩
        · exact ⟨e, by omega⟩
        · rw [hsem] at e; exact absurd e this
      obtain ⟨h0, hc0⟩ := h0
      subst h0
      refine .inr (.inl ⟨hd, rfl, by rw [hsem]; exact hc0, ?_⟩)
      have e1 : (gT σ i).1 = { σ with servs := σ.servs.set i ⟨i1, i2, after j r, 0, i5, i6, i7⟩ } := by
        unfold gT
        rw [hx]
        simp only [hst, he, cond_true, show cT 0 2 = false from dP.2 (by omega), cond_false]
        rw [hx, ← hnx hd]
        simp only
        cases cT (eJ j).1.at_ (am j.prog.length) <;> rfl
      show (lM (gT σ i).1 i).1 = _
      rw [e1, uf (x := ⟨i1, i2, after j r, 0, i5, i6, i7⟩) (by show (σ.servs.set i _)[i]? = _; rw [List.getElem?_set, if_pos rfl, if_pos hi])]
      simp only
      rw [hfin]
      cases hJ : after j r with
      | nil => simp only [hset]
      | cons j' r' => rfl
  · have he : cT j.done j.cur.2 = false := dP.2 hd
    by_cases hs : i4 = 2
    · subst hs
      obtain ⟨q, l, q1, q2, q3, q4, _⟩ := wK h hx rfl
      have hq1 : j.cur.1 = (q : Int) + 1 := by rw [← hsem]; exact q1
      by_cases hh : i5 = l.most
      · refine .inr (.inr ⟨q, l, rfl, q1, q2, q3, q4, .inr ⟨hd, hh, ?_⟩⟩)
        obtain ⟨d1, d2, _⟩ := wL (a := ⟨i1, i2, r, 0, i5, i6, i7⟩) (b := eQ ⟨i1, i2, j :: r, 2, i5, i6, i7⟩ r) true hx rfl (by rw [hfin]; cases r <;> rfl) q2 (wait q l q2 q3 q4)
        have e1 : (gT σ i).1 = (free { σ with servs := σ.servs.set i ⟨i1, i2, r, 0, i5, i6, i7⟩ } ((q : Int) + 1) true).1 := by
          unfold gT
          rw [hx]
          simp only [hst, he, cond_false, hq1, show cT 2 2 = true from eK.2 rfl, show ((q : Int) + 1 - 1).toNat = q by omega, q2, show cT i5 l.most = true from eK.2 hh, Bool.and_self, cond_true]
        show (lM (gT σ i).1 i).1 = _
        rw [e1, uf d2]
        simp only
        rw [hfin] at d1 ⊢
        cases hJ : r with
        | nil => rw [hJ] at d1; exact d1
        | cons j' r' => rfl
      · refine .inl ⟨hd, fun q' l' _ hq' hl' => ?_, ?_⟩
        · have : q' = q := by have : (q' : Int) + 1 = q + 1 := by rw [← hq', ← q1]
                              omega
          subst this
          rw [q2] at hl'; cases hl'; exact hh
        · have e1 : (gT σ i).1 = σ := by
            unfold gT
            rw [hx]
            simp only [hst, he, cond_false, hq1, show ((q : Int) + 1 - 1).toNat = q by omega, q2, show cT i5 l.most = false from dP.2 hh, Bool.and_false]
          show (lM (gT σ i).1 i).1 = _
          rw [e1, uf hx]
    · refine .inl ⟨hd, fun q l e => absurd e hs, ?_⟩
      have e1 : (gT σ i).1 = σ := by
        unfold gT
        rw [hx]
        simp only [hst, he, cond_false, show cT i4 2 = false from dP.2 hs, Bool.false_and]
      show (lM (gT σ i).1 i).1 = _
      rw [e1, uf hx]
theorem zV (x : Serv) (J : List Job) : (eQ x J).id = x.id ∧ (eQ x J).sec = 0 ∧ (eQ x J).jobs = J ∧ (eQ x J).num = x.num ∧ (eQ x J).ran = x.ran := by
  unfold eQ; cases J <;> exact ⟨rfl, rfl, rfl, rfl, rfl⟩
theorem DV {k : Nat} {x : Serv} {j : Job} {r J : List Job} (h : GoodV k x) (hjs : x.jobs = j :: r) (hi : Idl x) (hJ : J = r ∨ (j.done = j.cur.2 ∧ J = after j r)) : GoodV k (eQ x J) ∧ Idl (eQ x J) := by
  have hgj := h.jobs j (by rw [hjs]; exact List.mem_cons_self ..)
  have hlen := h.len
  rw [hjs] at hlen
  simp at hlen
  have hm : x.s.mode ≠ 0 := fun e => by have := hi.2 e; rw [hjs] at this; cases this
  have hr : ∀ y ∈ r, y.at_ = 0 ∧ y.done = 0 := fun y hy => h.rest y (by rw [hjs]; exact hy)
  have key : (∀ y ∈ J, GoodJ k y) ∧ J.length ≤ 8 ∧ (∀ y ∈ J.tail, y.at_ = 0 ∧ y.done = 0) ∧ (∀ y r', J = y :: r' → y.done = 0) := by
    have hR : (∀ y ∈ r, GoodJ k y) ∧ r.length ≤ 8 ∧ (∀ y ∈ r.tail, y.at_ = 0 ∧ y.done = 0) ∧ (∀ y r', r = y :: r' → y.done = 0) :=
      ⟨fun y hy => h.jobs y (by rw [hjs]; exact List.mem_cons_of_mem _ hy), by omega, fun y hy => hr y (List.mem_of_mem_tail hy), fun y r' e => (hr y (by rw [e]; exact List.mem_cons_self ..)).2⟩
    rcases hJ with e | ⟨hd, e⟩
    · subst e; exact hR
    · unfold after at e
      by_cases hl : j.at_ + 1 = j.prog.length
      · rw [if_pos hl] at e; subst e; exact hR
      · rw [if_neg hl] at e; subst e
        obtain ⟨e1, e2⟩ := zU hgj hd
        have e2 := e2 hl
        rw [e1] at e2
        refine ⟨fun y hy => ?_, by simp; omega, fun y hy => hr y hy, fun y r' e => by cases e; rfl⟩
        rcases List.mem_cons.1 hy with e | hy
        · subst e; exact e2
        · exact hR.1 y hy
  obtain ⟨k1, k2, k3, k4⟩ := key
  obtain ⟨f1, f2, f3, f4, f5⟩ := zV x J
  have hid : (eQ x J).s = if J = [] then (fq x.s).1 else x.s := by unfold eQ; cases J <;> rfl
  refine ⟨⟨by rw [f1]; exact h.id1, by rw [f1]; exact h.id2, ?_, by rw [f3]; exact k2, by rw [f3]; exact k1, by rw [f3]; exact k3, .inl f2, fun _ _ => ?_⟩, ?_⟩
  · rw [hid]
    split
    · exact (zW h.s).1
    · exact h.s
  · unfold headDone
    rw [f3]
    cases hJ' : J with
    | nil => rfl
    | cons y r' => exact k4 y r' hJ'
  · unfold Idl
    rw [f3, hid]
    by_cases e : J = []
    · rw [if_pos e]
      exact ⟨fun _ => (zW h.s).2, fun _ => e⟩
    · rw [if_neg e]
      exact ⟨fun h => absurd h e, fun h => absurd h hm⟩
theorem H3 {B : Int} {σ : St} (h : Iv B σ) {i : Nat} {x : Serv} {j : Job} {r : List Job} (hx : σ.servs[i]? = some x) (hjs : x.jobs = j :: r) :
    Iv B (gn σ i).1 ∧ (gn σ i).1.m = σ.m ∧ (gn σ i).1.now = σ.now ∧ (gn σ i).1.backs = σ.backs ∧ (gn σ i).1.sems.length = σ.sems.length ∧ (gn σ i).1.servs.map (·.id) = σ.servs.map (·.id) ∧ (∀ k y, k ≠ i → σ.servs[k]? = some y → ∃ y', (gn σ i).1.servs[k]? = some y' ∧ Next y y') := by
  have hxm := List.mem_of_getElem? hx
  have hg := h.serv x hxm
  have hi := (List.getElem?_eq_some_iff.1 hx).1
  have hfix : ∀ J, (cT (eQ x J).s.mode 1 && dY (eQ x J).sec 0) = true → (cT x.s.mode 1 && dY x.sec 0) = true := fun J hb => by
    rw [(zV x J).2.1, gq.2 rfl, Bool.and_false] at hb; cases hb
  have rel : ∀ (q : Nat) (l : Lock) (t : Bool) (J : List Job), (J = r ∨ (j.done = j.cur.2 ∧ J = after j r)) → σ.sems[q]? = some l → l.holder = x.id → key x = (x.id, 2, (q : Int) + 1) →
      let τ := (free { σ with servs := σ.servs.set i (eQ x J) } ((q : Int) + 1) t).1
      Iv B τ ∧ τ.m = σ.m ∧ τ.now = σ.now ∧ τ.backs = σ.backs ∧ τ.sems.length = σ.sems.length ∧ τ.servs.map (·.id) = σ.servs.map (·.id) ∧ (∀ k y, k ≠ i → σ.servs[k]? = some y → ∃ y', τ.servs[k]? = some y' ∧ Next y y') := by
    intro q l t J hJ hl hh hk τ
    obtain ⟨f1, f2, f3, f4, f5⟩ := zV x J
    obtain ⟨g1, g2⟩ := DV hg hjs (h.idle x hxm) hJ
    obtain ⟨a1, a2, a3, a4, a5, a6, a7, a8⟩ := MG (t := t) h.toIw hx hk hl hh f1 f2 g1 (by rw [f4]; exact h.num x hxm) (by rw [f5]; exact h.ran x hxm)
    refine ⟨{ toIw := by rw [a3]; exact a1, idle := fun y' hy' => ?_, fix := ?_ }, a2, a3, a4, a5, a6, a8⟩
    · obtain ⟨k, hk'⟩ := List.getElem?_of_mem hy'
      by_cases e : k = i
      · subst e
        rw [a7] at hk'; cases hk'; exact g2
      · have hlen : τ.servs.length = σ.servs.length := by have := congrArg List.length a6; simpa using this
        have hkl : k < σ.servs.length := by rw [← hlen]; exact (List.getElem?_eq_some_iff.1 hk').1
        obtain ⟨y2, b1, b2⟩ := a8 k _ e (List.getElem?_eq_getElem hkl)
        rw [hk'] at b1; cases b1
        have := h.idle _ (List.getElem_mem hkl)
        rcases b2 with e | ⟨_, e⟩
        · rw [e]; exact this
        · rw [e]; exact this
    · refine Int.le_trans (Int.ofNat_le.2 ?_) (by rw [a2]; exact h.fix)
      have e1 : pl.nfix ((ready (σ.servs.set i (eQ x J))).map Serv.ent) ≤ fixed σ := sV hx (hfix J)
      refine Nat.le_trans ?_ e1
      cases hq : l.queue with
      | nil =>
        have : τ.servs = σ.servs.set i (eQ x J) := by
          show (free { σ with servs := σ.servs.set i (eQ x J) } ((q : Int) + 1) t).1.servs = _
          rw [uW (σ := { σ with servs := σ.servs.set i (eQ x J) }) t hl hq]
        unfold fixed
        rw [this]
        exact Nat.le_refl _
      | cons y r' =>
        obtain ⟨v, hv, hvid, hvs, _⟩ := sU h.toIw hl (y := y) (by rw [hq]; exact List.mem_cons_self ..)
        have hat : at_ (σ.servs.set i (eQ x J)) y = at_ σ.servs y := mq (iV hx f1) y
        have hki : at_ σ.servs y ≠ i := fun e => by
          rw [e, hx] at hv; cases hv
          have := congrArg (·.2.1) hk
          unfold key at this
          simp at this; omega
        have hv' : (σ.servs.set i (eQ x J))[at_ (σ.servs.set i (eQ x J)) y]? = some v := by rw [hat, List.getElem?_set, if_neg (fun h => hki h.symm)]; exact hv
        have : τ.servs = (σ.servs.set i (eQ x J)).set (at_ (σ.servs.set i (eQ x J)) y) { v with sec := 2, held := 0 } := by
          show (free { σ with servs := σ.servs.set i (eQ x J) } ((q : Int) + 1) t).1.servs = _
          rw [uX (σ := { σ with servs := σ.servs.set i (eQ x J) }) t hl hq hv']
        unfold fixed
        rw [this]
        refine sV hv' (fun hb => ?_)
        simp only [Bool.and_eq_true] at hb ⊢
        exact ⟨hb.1, gS.2 (by omega)⟩
  rcases MH h.toIw hx hjs with ⟨_, _, e⟩ | ⟨hd, hs, _, e⟩ | ⟨q, l, hs, hq, hl, hh, hk, ⟨hd, e⟩ | ⟨hd, _, e⟩⟩
  · rw [e]; exact ⟨h, rfl, rfl, rfl, rfl, rfl, fun k y _ hy => ⟨y, hy, .inl rfl⟩⟩
  · rw [e]
    obtain ⟨f1, f2, f3, f4, f5⟩ := zV x (after j r)
    obtain ⟨g1, g2⟩ := DV hg hjs (h.idle x hxm) (.inr ⟨hd, rfl⟩)
    refine ⟨{ toIw := h.toIw.setS hx ?_ g1 (by rw [f4]; exact h.num x hxm) (by rw [f5]; exact h.ran x hxm), idle := fH h.idle g2, fix := Int.le_trans (Int.ofNat_le.2 (sV hx (hfix _))) h.fix }, rfl, rfl, rfl, rfl, iV hx f1, fun k y hk hy => ⟨y, ?_, .inl rfl⟩⟩
    · rw [DU f2, DU hs, f1]
    · show (σ.servs.set i _)[k]? = _
      rw [List.getElem?_set, if_neg (fun h => hk h.symm)]; exact hy
  · rw [e]; exact rel q l false _ (.inr ⟨hd, rfl⟩) hl hh hk
  · rw [e]; exact rel q l true _ (.inl rfl) hl hh hk
end Go.AX.pm
namespace Go.AX.pm
open Go.AX
theorem Bi{B:Int}:∀{L:List Nat}{σ : St},Iv B σ->L.Nodup->(∀p∈L,∃x,σ.servs[p]? = some x/\x.jobs≠[])->
  Iv B (ends σ L).1/\(ends σ L).1.m = σ.m/\(ends σ L).1.now = σ.now/\(ends σ L).1.backs = σ.backs/\(ends σ L).1.sems.length = σ.sems.length/\(ends σ L).1.servs.map (·.id) = σ.servs.map (·.id)
 | [],σ,h,_,_=>⟨h,rfl,rfl,rfl,rfl,rfl⟩
 | i::r,σ,h,hn,hp=>by
  rw[List.nodup_cons]at hn;obtain⟨x,hx,hj⟩:=hp i (List.mem_cons_self ..);cases hjs:x.jobs with
  | nil=>exact absurd hjs hj
  | cons j js=>
   obtain⟨a1,a2,a3,a4,a5,a6,a7⟩:=H3 h hx hjs;obtain⟨b1,b2,b3,b4,b5,b6⟩:=Bi (L:=r) a1 hn.2 (fun p hpr=>by
    obtain⟨y,hy,hyj⟩:=hp p (List.mem_cons_of_mem _ hpr);obtain⟨y',hy',hN⟩:=a7 p y (fun e=>hn.1 (e▸hpr)) hy;refine⟨y',hy',?_⟩;rcases hN with e|⟨_,e⟩
    .rw[e];exact hyj
    .rw[e];exact hyj)
   exact⟨b1,b2.trans a2,b3.trans a3,b4.trans a4,b5.trans a5,b6.trans a6⟩
theorem ml{B:Int}{σ : St}(h:Iv B σ)(ha:pO σ):Da σ ((aQ σ).map (at_ σ.servs)):=by
 refine⟨?_,fun p hp=>?_⟩
 .rw[List.Nodup,List.pairwise_map];refine(List.Pairwise.and_mem.1 (Ac σ)).imp fun{a b} hab=>?_
  obtain⟨h1,h2,hne⟩:=hab;obtain⟨x,hx,rfl,_⟩:=iR h h1;obtain⟨y,hy,rfl,_⟩:=iR h h2;intro e;rw[e,hy]at hx;cases hx;exact hne rfl
 .obtain⟨id,hid,rfl⟩:=List.mem_map.1 hp;obtain⟨x,hx,rfl,hm,hj⟩:=iR h hid;exact⟨x,hx,hm,hj,ha x (List.mem_of_getElem? hx) hid⟩
noncomputable def fb(l:List Back)(n:Nat):List Back:=l.drop n++(l.take n).map fun b=>{ b with ran:=bh .i64 b.ran 1 }
theorem H9{l:List Back}{R:Int}(n:Nat)(hR:R<=4611686018427387904)(h:∀b∈l,1<=b.id/\b.id<=255/\0<=b.ran/\b.ran<=R)(hn:(l.map (·.id)).Nodup) :
  (fb l n).length=l.length/\(∀b∈fb l n,1<=b.id/\b.id<=255/\0<=b.ran/\b.ran<=R+1)/\((fb l n).map (·.id)).Nodup:=by
 unfold fb;refine⟨?_,fun b hb=>?_,?_⟩
 .rw[List.length_append,List.length_map,List.length_drop,List.length_take];omega
 .rcases List.mem_append.1 hb with hb|hb
  .have:=h b (List.mem_of_mem_drop hb);omega
  .obtain⟨c,hc,rfl⟩:=List.mem_map.1 hb;obtain⟨h1,h2,h3,h4⟩:=h c (List.mem_of_mem_take hc);refine⟨h1,h2,?_⟩;show 0<=bh .i64 c.ran 1/\bh .i64 c.ran 1<=R+1;rw[dI (by omega) (by omega)];omega
 .rw[List.map_append,List.map_map];have e:(List.take n l).map ((fun b:Back=>b.id)∘fun b=>{ b with ran:=bh .i64 b.ran 1 })=(List.take n l).map (·.id):=rfl;rw[e,<-List.map_append];have hp:(l.drop n++l.take n).Perm l:=List.perm_append_comm.trans (by rw[List.take_append_drop]);exact(hp.map _).nodup_iff.2 hn
theorem rp{σ : St}(h:σ.now<4611686018427387904):tick σ = (let a:=settle σ;let t:=runs a.1 ((aQ a.1).map (at_ a.1.servs));let e:=ends { t with backs:=fb t.backs (fu a.1).length,now:=bh .i64 t.now 1 } ((aQ a.1).map (at_ a.1.servs));(e.1,a.2++e.2,0)):=by
 unfold tick fb;rw[show leI rn σ.now=false from nW.2 h];rfl
theorem mI{B:Int}{σ : St}(h:Iv B σ):(settle σ).1.now = σ.now/\(settle σ).1.backs = σ.backs/\(settle σ).1.sems.length = σ.sems.length/\(settle σ).1.servs.map (·.id) = σ.servs.map (·.id):=by
 have h1:=oR (σ.servs.length+1) (rU h);have g:=(qh h1).2.1;have gen:∀(n:Nat) {τ : St},Iv B τ->(dt n τ).1.now = τ.now/\(dt n τ).1.backs = τ.backs/\(dt n τ).1.sems = τ.sems/\(dt n τ).1.servs.map (·.id) = τ.servs.map (·.id):=by
  intro n
  induction n with
  | zero=>intro τ _;exact⟨rfl,rfl,rfl,rfl⟩
  | succ n ih=>
   intro τ hτ;unfold dt;split
   .exact⟨rfl,rfl,rfl,rfl⟩
   .rename_i σ' e hr;obtain⟨a,b,c,d⟩:=ih (sX hτ hr).1;obtain⟨p,hp,v,k,hv,_,_,e,_⟩:=iG hr;subst e;refine⟨a,b,c,d.trans ?_⟩;exact iV hv rfl
 obtain⟨a,b,c,d⟩:=gen (σ.servs.length+1) (rU h);refine⟨g.now.trans a,g.backs.trans b,g.sems.trans (by rw[c];rfl),(g.ids.trans d).trans ?_⟩;rw[<-nM,Ae,nM]
theorem DZ{B:Int}{σ : St}(h:Iv B σ)(hn:σ.now<4611686018427387904){L:List Nat}(hL:Da σ L)(n:Nat) :
  Iv B { runs σ L with backs:=fb (runs σ L).backs n,now:=bh .i64 (runs σ L).now 1 }/\bh .i64 (runs σ L).now 1 = σ.now+1:=by
 obtain⟨e1,e2,e3,e4,e5,e6⟩:=mK L σ hL.1;obtain⟨r1,r2,r3⟩:=LL h hL;have h2:=h.now1;have en:bh .i64 (runs σ L).now 1 = σ.now+1:=by rw[e2,dI (by omega) (by omega)]
 have ht:=H9 (l:=(runs σ L).backs) (R:=σ.now) n h.now2 (by rw[e4];exact h.back) (by rw[e4];exact h.bnd);rw[en];refine⟨?_,rfl⟩;refine { toIw:={ r1 with now1:=?_,now2:=?_,len3:=by rw[ht.1];exact r1.len3,back:=ht.2.1,bnd:=ht.2.2 },idle:=r2,fix:=by rw[show ({ runs σ L with backs:=fb (runs σ L).backs n,now:=σ.now+1 }:St).m = σ.m from e1];exact r3 }
 .show 0<=σ.now+1;omega
 .show σ.now+1<=_;omega
theorem BX{σ : St}{L:List Nat}(hL:Da σ L):∀p∈L,∃x,(runs σ L).servs[p]? = some x/\x.jobs≠[]:=fun p hp=>by
 obtain⟨x,hx,hm,hj,_⟩:=hL.2 p hp;refine⟨gy x,?_,?_⟩
 .rw[(mK L σ hL.1).2.2.2.2.2,if_pos hp,hx];rfl
 .rw[mJ];show iW x≠[];unfold iW;split
  .exact hj
  .split
   .rename_i e;exact absurd e hj
   .simp
theorem xI{B:Int}{σ : St}(h:Iv B σ):Iv B (tick σ).1/\(tick σ).1.m = σ.m/\(tick σ).1.sems.length = σ.sems.length/\((tick σ).1.now=if σ.now<4611686018427387904 then σ.now+1 else σ.now)/\((tick σ).2.2=if σ.now<4611686018427387904 then 0 else 6):=by
 by_cases hn:σ.now<4611686018427387904
 .rw[rp hn,if_pos hn,if_pos hn];simp only;obtain⟨s1,s2,s3⟩:=jJ h;obtain⟨s4,s5,s6,s7⟩:=mI h;generalize (settle σ).1 = τ at s1 s2 s3 s4 s5 s6 s7;have hL:=ml s1 s2;obtain⟨u1,u2⟩:=DZ s1 (by rw[s4];exact hn) hL (fu τ).length;obtain⟨v1,v2,v3,v4,v5,v6⟩:=Bi (L:=(aQ τ).map (at_ τ.servs)) u1 hL.1 (fun p hp=>BX hL p hp);obtain⟨e1,e2,e3,e4,e5,e6⟩:=mK _ τ hL.1;refine⟨v1,(v2.trans e1).trans s3,(v5.trans (by show (runs τ _).sems.length=_;rw[e3])).trans s6,(v3.trans u2).trans (by rw[s4]),trivial⟩
 .unfold tick;rw[show leI rn σ.now=true from fU.2 (by show (4611686018427387904:Int)<=σ.now;omega),if_neg hn,if_neg hn];exact⟨h,rfl,rfl,rfl,rfl⟩
theorem MI{m:Int}{most:List Int}(h:(new m most).2=0):Iv 0 (new m most).1/\new m most=(⟨m,0,[],most.map fun n=>⟨n,0,[],false⟩,[]⟩,0)/\1<=m/\m<=64/\most.length<=8/\∀n∈most,1<=n/\n<=1048576:=by
 unfold new at h ⊢;cases hc:(cQ m 1 || (cQ 64 m || (cQ 8 (am most.length) || most.any qC)))with
 | true=>rw[hc]at h;simp at h
 | false=>
  simp only[Bool.or_eq_false_iff,dJ,gf,List.any_eq_false]at hc;obtain⟨h1,h2,h3,h4⟩:=hc;have h5:∀n∈most,1<=n/\n<=1048576:=fun n hn=>by
   have:=h4 n hn;unfold qC at this;simp only[Bool.not_eq_true,Bool.or_eq_false_iff,dJ]at this;exact this
  refine⟨?_,rfl,h1,h2,by omega,h5⟩;rw[cond_false];refine { m1:=h1,m2:=h2,now1:=Int.le_refl _,now2:=by simp,rise:=trivial,len1:=by simp,len2:=by simp;omega,len3:=by simp,serv:=fun x hx=>(by cases hx),num:=fun x hx=>(by cases hx),ran:=fun x hx=>(by cases hx),most:=fun l hl=>?_,lock:=fun q l hl=>?_,back:=fun b hb=>(by cases hb),bnd:=List.nodup_nil,idle:=fun x hx=>(by cases hx),fix:=by show ((0:Nat):Int)<=m;omega }
  .obtain⟨n,hn,rfl⟩:=List.mem_map.1 hl;exact h5 n hn
  .have hl:=List.mem_of_getElem? hl;obtain⟨n,hn,rfl⟩:=List.mem_map.1 hl;exact⟨List.nodup_nil,fun id=>⟨fun h=>(by cases h),fun h=>(by cases h)⟩,fun id=>⟨fun h=>absurd h.2.symm h.1,fun h=>(by cases h)⟩,fun _=>rfl⟩
theorem Ia{B:Int}{σ : St}(h:Iv B σ)(id:Int)(on:Bool):Iv B (gG σ id on).1/\(gG σ id on).1.m = σ.m/\(gG σ id on).1.now = σ.now/\(gG σ id on).1.sems = σ.sems/\(gG σ id on).1.servs = σ.servs:=by
 unfold gG;cases h1:(cQ id 1 || cQ 255 id)with
 | true=>exact⟨h,rfl,rfl,rfl,rfl⟩
 | false=>
  simp only[Bool.or_eq_false_iff,dJ]at h1;simp only[cond_false];cases on with
  | true=>
   cases hb:back σ.backs id with
   | some i=>exact⟨h,rfl,rfl,rfl,rfl⟩
   | none=>
    simp only;cases h3:leI 16 (am σ.backs.length)with
    | true=>exact⟨h,rfl,rfl,rfl,rfl⟩
    | false=>
     have h3:=nW.1 h3;simp only[gf]at h3;simp only[cond_false];refine⟨{ h with len3:=by show (σ.backs++_).length<=16;simp;omega,back:=fun b hb'=>?_,bnd:=?_ },trivial,trivial,trivial,trivial⟩
     .rcases List.mem_append.1 hb' with hb'|hb'
      .exact h.back b hb'
      .rw[List.mem_singleton.1 hb'];have:=h.now1;exact⟨h1.1,h1.2,Int.le_refl _,this⟩
     .show ((σ.backs++_).map (·.id)).Nodup;rw[List.map_append,List.nodup_append];refine⟨h.bnd,by simp,fun a ha b hb'=>?_⟩;simp at hb';subst hb';intro e;subst e;obtain⟨c,hc,e⟩:=List.mem_map.1 ha;unfold back at hb;rw[List.findIdx?_eq_none_iff]at hb;have:=hb c hc;rw[eK.2 e]at this;cases this
  | false=>
   cases hb:back σ.backs id with
   | none=>exact⟨h,rfl,rfl,rfl,rfl⟩
   | some i=>
    have hsub:(σ.backs.eraseIdx i).Sublist σ.backs:=List.eraseIdx_sublist ..;exact⟨{ h with len3:=Nat.le_trans hsub.length_le h.len3,back:=fun b hb'=>h.back b (hsub.subset hb'),bnd:=h.bnd.sublist (hsub.map _) },rfl,rfl,rfl,rfl⟩
end Go.AX.pm
namespace Go.AX
open Go
noncomputable section
section
variable {T:Tys}{wj wq:Nat->Kd}{m0 m m2 mo:Mem}{lam:Nat->Lb}{a1 a2 a3:Option Addr}{n1 c1 n2 c2 n3 c3:Nat}{ss:List SV}{js:Nat->List JV}{ls:List LV}{qs:Nat->List Int}{σ : pm.St}
theorem Ow.atB(h:Ow T wj wq m0 m lam a1 n1 c1 a2 n2 c2 a3 n3 c3 ss js ls qs σ){i:Nat}{x:pm.Back}(hx:σ.backs[i]? = some x) :
  ∃b o,a3=some ⟨b,o,none⟩/\lam b = .bk/\∀k u,(encB x)[k]? = some u->rd m b (o+Int.toNat (i:Int)*2+k)=some u:=by
 obtain⟨b,o,e,hc⟩:=(h.s3.arr fA h.s3n).2 i x hx;exact⟨b,o,e,h.s3l b (by rw[e];simp[blk]),fun k u hu=>by rw[Int.toNat_natCast];exact hc k u hu⟩
theorem Ow.setB(h:Ow T wj wq m0 m lam a1 n1 c1 a2 n2 c2 a3 n3 c3 ss js ls qs σ){b o i k:Nat}{x x':pm.Back}{vs:List Value}(hx:σ.backs[i]? = some x)(hab:a3=some ⟨b,o,none⟩)(hk:k+vs.length<=2)(he:over (encB x) k vs=encB x') :
  okW m b (o+Int.toNat (i:Int)*2+k) vs.length/\Ow T wj wq m0 (wr m b (o+Int.toNat (i:Int)*2+k) vs) lam a1 n1 c1 a2 n2 c2 a3 n3 c3 ss js ls qs { σ with backs:=σ.backs.set i x' }:=by
 have hw:=h.keep.wf;obtain⟨b',o',e,hok,hc⟩:=h.s3.set fA (by omega) h.s3n hx hk he (by have:=h.keep.fl;have:=h.fl0;omega);rw[hab]at e;cases e;refine⟨hok,?_⟩;have hlb:lam b = .bk:=h.s3l b (by rw[hab];simp[blk]);have hnb:m0.nx<=b:=h.new b (by rw[hlb];simp);have f:Fr m (wr m b (o+Int.toNat (i:Int)*2+k) vs) [b]:=(Fr.refl m _).wr (.inl (by simp));have ne:∀{b':Nat}{L:Lb},lam b'=L->L≠.bk->b'∉[b]:=fun e hn hs=>hn (by rw[<-e,List.mem_singleton.1 hs,hlb])
 have nb:∀b'∈[b],lam b'≠.pr:=fun b' hb'=>by rw[List.mem_singleton.1 hb',hlb];simp
 refine { h with keep:=h.keep.wr hnb,lab:=fun b hb=>by simpa using h.lab b hb,s3:=hc,s3n:=by show (σ.backs.set i x').length=n3;rw[List.length_set];exact h.s3n,s1:=h.s1.fr hw f (fun b hb=>ne (h.s1l b hb) (by simp)),s2:=h.s2.fr hw f (fun b hb=>ne (h.s2l b hb) (by simp)),jb:=fun k u hu=>?_,qu:=fun k u hu=>?_,ds:=fun j u x hu hx=>?_ }
 .exact(h.jb k u hu).fr hw f nb (fun b' hb'=>by rw[List.mem_singleton.1 hb',hlb];simp)
 .exact(h.qu k u hu).fr hw f nb (fun b' hb'=>by rw[List.mem_singleton.1 hb',hlb];simp)
 .obtain⟨p,q⟩:=h.ds j u x hu hx;exact⟨p,q.imp fun _ _ r=>r.fr hw f nb⟩
theorem Ow.newB(h:Ow T wj wq m0 m lam a1 n1 c1 a2 n2 c2 a3 n3 c3 ss js ls qs σ){a':Option Addr}{n' c':Nat}{l':List pm.Back}(k:Keep m m2)(ho:OwnSl mo m2 T.B a' n' c' (l'.flatMap encB))(hn:m.nx<=mo.nx)(hl:l'.length=n') :
  ∃lam',Ow T wj wq m0 m2 lam' a1 n1 c1 a2 n2 c2 a' n' c' ss js ls qs { σ with backs:=l' }/\(∀b,lam b≠.no->lam' b=lam b)/\(∀b,b<m.nx->lam' b=lam b):=by
 have h2:=h.then k;have hbl:∀b∈blk a',m.nx<=b/\b<m2.nx:=fun b hb=>⟨Nat.le_trans hn (ho.blk b hb),ho.lt k.wf b hb⟩
 have hnx:=h.keep.nx;have key:∀lam',(∀b∈blk a',lam' b = .bk)->Ow T wj wq m0 m2 lam' a1 n1 c1 a2 n2 c2 a3 n3 c3 ss js ls qs σ->Ow T wj wq m0 m2 lam' a1 n1 c1 a2 n2 c2 a' n' c' ss js ls qs { σ with backs:=l' }:=fun lam' hl' h'=>
  { h' with s3:=(ho.csl true).old (Nat.le_trans hnx hn),s3l:=hl',s3n:=hl }
 cases a' with
 | none=>exact⟨lam,key lam (fun b hb=>by cases hb) h2,fun b _=>rfl,fun b _=>rfl⟩
 | some ad=>
  obtain⟨q1,q2⟩:=hbl ad.block (by simp[blk]);have hno:lam ad.block = .no:=h.noNew q1;refine⟨jB lam ad.block .bk,key _ (fun b hb=>?_) (h2.own hno q2),fun b hb=>?_,fun b hb=>?_⟩
  .simp[blk]at hb;subst hb;exact fB ..
  .rw[fo];intro e;subst e;exact hb hno
  .rw[fo];intro e;omega
theorem Ow.apartB{m':Mem}{S:List Nat}(h:Ow T wj wq m0 m lam a1 n1 c1 a2 n2 c2 a3 n3 c3 ss js ls qs σ)(f:Fr m m' S)(hS:∀b∈S,lam b = .bk) :
  (∃ss,Arr encS 11 m' a1 n1 ss/\All2 (RdServ m') ss σ.servs)/\(∃ls,Arr encL 4 m' a2 n2 ls/\All2 (RdLock m') ls σ.sems):=by
 have hw:=h.keep.wf;have ne:∀{b:Nat}{L:Lb},lam b=L->L≠.bk->b∉S:=fun e hn hs=>hn (by rw[<-e,hS _ hs])
 have nb:∀b'∈S,lam b'≠.pr:=fun b' hb'=>by rw[hS b' hb'];simp
 refine⟨⟨ss,(h.s1.fr hw f (fun b hb=>ne (h.s1l b hb) (by simp))).arr jZ h.s1n,All2.of (by rw[h.s1n,h.s1d]) fun i v x hv hx=>?_⟩,⟨ls,(h.s2.fr hw f (fun b hb=>ne (h.s2l b hb) (by simp))).arr nL h.s2n,All2.of (by rw[h.s2n,h.s2d]) fun k v l hv hl=>?_⟩⟩
 .obtain⟨p,q⟩:=h.ds i v x hv hx;exact⟨p.id,p.s,p.sec,p.held,p.num,p.ran,js i,((h.jb i v hv).fr hw f nb (fun b' hb'=>by rw[hS b' hb'];simp)).arr fh,q.imp fun _ _ r=>let r:=r.fr hw f nb;⟨r.num,r.at_,r.done,r.prog⟩⟩
 .obtain⟨p,q⟩:=h.dl k v l hv hl;exact⟨p.most,p.holder,p.dead,by rw[<-q];exact((h.qu k v hv).fr hw f nb (fun b' hb'=>by rw[hS b' hb'];simp)).arr dM⟩
end
end
end Go.AX
namespace Go.AX.pm
open Go.AX
theorem Ii{a p:Int}(ha:0<=a)(hp:1<=p):a<(a.tdiv p+1)*p/\(a.tdiv p+1)*p<=a+p/\0<=a.tdiv p/\a.tdiv p<=a:=by
 have h1:a.tdiv p=a / p:=Int.tdiv_eq_ediv_of_nonneg ha;rw[h1];have h2:=Int.emod_nonneg a (show p≠0 by omega);have h3:=Int.emod_lt_of_pos a (show 0<p by omega);have h4:=Int.mul_ediv_add_emod a p;have h5:(a / p+1)*p=p*(a / p)+p:=by rw[Int.add_mul,Int.mul_comm];simp
 have h6:0<=a / p:=Int.ediv_nonneg ha (by omega);have h7:a / p<=a:=Int.ediv_le_self _ ha;rw[h5];refine⟨by omega,by omega,h6,h7⟩
theorem MK{t d p r:Int}(hp:1<=p)(hp2:p<=2147483648)(h:jH t d p=(r,true)):t<r:=by
 unfold jH at h;cases hg:gF t&&(gF d&&ue p 1 2147483648)with
 | false=>rw[hg]at h;simp at h
 | true=>
  rw[hg,cond_true]at h;simp only[Bool.and_eq_true]at hg;have ht:=kO.1 hg.1;have hd:=kO.1 hg.2.1;cases hl:cQ t d with
  | true=>rw[hl,cond_true]at h;cases h;exact gj.1 hl
  | false=>
   rw[hl,cond_false]at h;rw[dJ]at hl;obtain⟨q1,q2,q3,q4⟩:=Ii (a:=t-d) (p:=p) (by omega) hp;have e1:cZ .i64 t d=t-d:=eF (by omega) (by omega);have e2:pw .i64 (t-d) p=(t-d).tdiv p:=je (by omega) (by omega);have e3:bh .i64 ((t-d).tdiv p) 1=(t-d).tdiv p+1:=dI (by omega) (by omega);have e4:io .i64 ((t-d).tdiv p+1) p=((t-d).tdiv p+1)*p:=FE (by omega) (by omega);have e5:bh .i64 d (((t-d).tdiv p+1)*p)=d+((t-d).tdiv p+1)*p:=dI (by omega) (by omega);rw[e1,e2,e3,e4,e5]at h;unfold qO at h;cases hz:gF (d+((t-d).tdiv p+1)*p)with
   | false=>rw[hz]at h;simp at h
   | true=>
    rw[hz,cond_true]at h;cases h;omega
theorem Fl{s:Srv}{now:Int}(h:CF s):dw (dw s now).1 now=((dw s now).1,false):=by
 cases hb:(dw s now).2 with
 | false=>
  rw[rT hb];exact Prod.ext (rT hb) hb
 | true=>
  unfold dw at hb;rw[gu.2 h]at hb;cases h1:(!true || (cT s.mode 0 || cQ now s.due))with
  | true=>rw[h1]at hb;simp at hb
  | false=>
   rw[h1,cond_false]at hb;cases h2:(jH now s.due s.p).2 with
   | false=>rw[h2]at hb;simp at hb
   | true=>
    have e:(dw s now).1=iI { s with bud:=s.q,due:=(jH now s.due s.p).1 }:=by
     unfold dw;rw[gu.2 h,h1,cond_false,h2];rfl
    have hlt:=MK (r:=(jH now s.due s.p).1) h.p1 h.p2 (by rw[<-h2]);rw[e];have hd:(iI { s with bud:=s.q,due:=(jH now s.due s.p).1 }).due=(jH now s.due s.p).1:=by
     unfold iI;cases cT s.q 0<;>rfl
    unfold dw;rw[hd,gj.2 hlt,Bool.or_true,Bool.or_true];rfl
def fp(now:Int)(x:Serv):Prop:=eY now x=(x,false)
theorem D6{k:Nat}{now:Int}{x:Serv}(h:GoodV k x):fp now (eY now x).1:=by
 unfold fp;unfold eY;cases hc:(x.idle || dY x.sec 0)with
 | true=>simp only[cond_true];rw[hc];rfl
 | false=>
  simp only[cond_false];cases hc2:(({ x with s:=(dw x.s now).1 }:Serv).idle || dY x.sec 0)with
  | true=>rfl
  | false=>simp only[cond_false];rw[Fl h.s]
theorem fp.sec{now:Int}{x:Serv}(h:x.sec≠0):fp now x:=by
 unfold fp eY;rw[gS.2 h,Bool.or_true];rfl
theorem fp.wait{k:Nat}{now:Int}{x:Serv}(hg:GoodV k x)(h:fp now x)(hm:x.s.mode=1):fp now { x with s:=(eI x.s).1 }:=by
 have hw:=zZ hg.s hm;unfold fp eY at h ⊢;cases hs:dY x.sec 0 with
 | true=>simp[Bool.or_true]
 | false=>
  have hi:x.idle=false:=by unfold Serv.idle;rw[hm];exact dP.2 (by decide)
  rw[hi,hs]at h;simp only[Bool.or_false,cond_false,Prod.mk.injEq]at h;have hi2:({ x with s:=(eI x.s).1 }:Serv).idle=false:=by
   unfold Serv.idle eI;rw[gu.2 hg.s];cases hne:dY x.s.mode 1 with
   | true=>exact absurd hm (gS.1 hne)
   | false=>exact dP.2 (show (2:Int)≠0 by decide)
  rw[hi2];simp only[Bool.or_false,cond_false];have e:(dw (eI x.s).1 now).2=false:=by
   have ew:(eI x.s).1 = { x.s with mode:=2 }:=by
    unfold eI;rw[gu.2 hg.s];cases hne:dY x.s.mode 1 with
    | true=>exact absurd hm (gS.1 hne)
    | false=>rfl
   have h2:=h.2;have hg2:ju (eI x.s).1=true:=gu.2 hw.1;rw[ew]at hg2 ⊢;unfold dw at h2 ⊢;rw[gu.2 hg.s]at h2;rw[hg2];have em:cT x.s.mode 0=false:=dP.2 (by omega);rw[em]at h2;simp only[Bool.not_true,Bool.false_or]at h2 ⊢;rw[show cT (2:Int) 0=false from dP.2 (by decide)];simp only[Bool.false_or];cases hl:cQ now x.s.due with
   | true=>rfl
   | false=>
    rw[hl]at h2;simp only[cond_false]at h2 ⊢;cases ht:(jH now x.s.due x.s.p).2 with
    | false=>rfl
    | true=>rw[ht]at h2;simp at h2
  rw[rT e,e]
theorem GN{σ : St}(h:∀x∈σ.servs,fp σ.now x):fG σ = σ/\mH σ = []:=by
 have e:σ.servs.map (fun v=>(eY σ.now v).1) = σ.servs:=by
  refine(List.map_congr_left fun x hx=>?_).trans (List.map_id _);rw[h x hx];rfl
 refine⟨?_,?_⟩
 .unfold fG;rw[e]
 .unfold mH;rw[List.filterMap_eq_nil_iff];intro x hx;rw[h x hx];rfl
theorem CN{B:Int}{σ σ':St}{e:Ev}(h:Iv B σ)(ht:∀x∈σ.servs,fp σ.now x)(hr:refuse σ = some (σ',e)):(∀x∈σ'.servs,fp σ'.now x)/\σ'.now = σ.now:=by
 obtain⟨p,hp,v,k,h1,h2,_,rfl,_⟩:=iG hr;obtain⟨x,a,b,c,_⟩:=pz h hp;rw[h1]at a;cases a;have hx:=List.mem_of_getElem? h1;exact⟨fH ht ((ht _ hx).wait (h.serv _ hx) c),rfl⟩
theorem ug{B:Int}:∀(n:Nat){σ : St},Iv B σ->(∀x∈σ.servs,fp σ.now x)->(∀x∈(dt n σ).1.servs,fp (dt n σ).1.now x)
 | 0,_,_,ht=>ht
 | n+1,σ,h,ht=>by
  unfold dt;cases hr:refuse σ with
  | none=>exact ht
  | some p=>
   obtain⟨σ',e⟩:=p;obtain⟨a,b⟩:=CN h ht hr;exact ug n (sX h hr).1 a
theorem nB{B:Int}{σ : St}(h:Iv B σ):∀x∈(settle σ).1.servs,fp (settle σ).1.now x:=by
 have h1:=rU h;have t1:∀x∈(fG σ).servs,fp (fG σ).now x:=by
  intro x hx;obtain⟨y,hy,rfl⟩:=List.mem_map.1 hx;exact D6 (h.serv y hy)
 have t2:=ug (σ.servs.length+1) h1 t1;have h2:=oR (σ.servs.length+1) h1;show ∀x∈(eD (dt (σ.servs.length+1) (fG σ)).1 (asks (dt (σ.servs.length+1) (fG σ)).1)).1.servs,fp (eD (dt (σ.servs.length+1) (fG σ)).1 (asks (dt (σ.servs.length+1) (fG σ)).1)).1.now x;generalize (dt (σ.servs.length+1) (fG σ)).1 = τ at t2 h2;obtain⟨_,g2,_⟩:=qh h2;have ha:=tG h2 g2;intro x' hx';obtain⟨i,hi⟩:=List.getElem?_of_mem hx';obtain⟨x,hx,hR⟩:=ha.get' hi;rcases hR.2.2.2.2.2 with e|⟨_,_,h5,_⟩
 .subst e;rw[g2.now];exact t2 _ (List.mem_of_getElem? hx)
 .exact fp.sec h5
theorem Ip{B:Int}{σ : St}(h:Iv B σ)(ha:pO σ):asks σ = []:=by
 rw[List.eq_nil_iff_forall_not_mem];intro p hp;obtain⟨x,a,b,_,c,d,e,_⟩:=pz h hp;have:=ha x (List.mem_of_getElem? a) b c;omega
theorem wR{B:Int}{σ : St}(h:Iv B σ)(ha:pO σ)(ht:∀x∈σ.servs,fp σ.now x):settle σ = (σ,[]):=by
 obtain⟨e1,e2⟩:=GN ht;have e3:=Ip h ha;have e4:dt (σ.servs.length+1) σ = (σ,[]):=by
  unfold dt refuse;rw[e3];rfl
 unfold settle;simp only[e1,e2,e4,e3];rfl
theorem CO{B:Int}{σ : St}(h:Iv B σ):settle (settle σ).1=((settle σ).1,[]):=
 wR (jJ h).1 (jJ h).2.1 (nB h)
theorem yl{B:Int}{σ : St}(h:Iv B σ)(hn:σ.now<4611686018427387904):(tick σ).1=(tick (settle σ).1).1/\(tick σ).2.1=(settle σ).2++(tick (settle σ).1).2.1/\(tick σ).2.2=0/\(tick (settle σ).1).2.2=0:=by
 have hn2:(settle σ).1.now<4611686018427387904:=by rw[(mI h).1];exact hn
 rw[rp hn,rp hn2];simp only[CO h];exact⟨trivial,by simp,trivial,trivial⟩
end Go.AX.pm
namespace Go.AX.pm
open Go.AX
noncomputable section
structure Act where
 op:Int
 who:Int
 q:Int
 p:Int
 n:Int
 steps:List Step
def dL:Nat->St->St
 | 0,s=>s
 | k+1,s=>(tick (dL k s)).1
theorem rQ{B:Int}{σ : St}(h:Iv B σ):∀k,Iv B (dL k σ)/\(dL k σ).m = σ.m/\(dL k σ).sems.length = σ.sems.length/\σ.now<=(dL k σ).now/\(dL k σ).now<=σ.now+k
 | 0=>⟨h,rfl,rfl,Int.le_refl _,by show σ.now<=_;omega⟩
 | k+1=>by
  obtain⟨a,b,c,d,e⟩:=rQ h k;obtain⟨a',b',c',d',_⟩:=xI a;refine⟨a',b'.trans b,c'.trans c,?_,?_⟩
  .show _<=(tick (dL k σ)).1.now;rw[d'];split<;>omega
  .show (tick (dL k σ)).1.now<=_;rw[d'];split<;>omega
theorem pN{B:Int}{σ : St}(h:Iv B σ):(settle σ).1.now = σ.now:=(mI h).1
end
end Go.AX.pm
namespace Go.AX.pm
open Go.AX
noncomputable section
def HO(x:Serv):Prop:=0<=x.held/\x.held<=x.ran
def Hd(s:St):Prop:=∀x∈s.servs,HO x
theorem HO.of{x x':Serv}(h:HO x)(a:x'.held=x.held)(b:x'.ran=x.ran):HO x':=by unfold HO at *;rw[a,b];exact h
theorem HO.zero{x x':Serv}(h:HO x)(a:x'.held=0)(b:x'.ran=x.ran):HO x':=by unfold HO at *;rw[a,b];omega
theorem Hd.set{s:St}(h:Hd s){i:Nat}{x:Serv}(hx:HO x):∀y∈s.servs.set i x,HO y:=fH h hx
theorem Hd.at{s:St}(h:Hd s){i:Nat}{x:Serv}(hx:s.servs[i]? = some x):HO x:=h x (List.mem_of_getElem? hx)
theorem J1{s:St}(h:Hd s):Hd (fG s):=fun x hx=>by
 obtain⟨y,hy,rfl⟩:=List.mem_map.1 hx;obtain⟨_,_,b,_,_,a⟩:=uZ s.now y;exact(h y hy).of a b
theorem H7{s s':St}{e:Ev}(h:Hd s)(hr:refuse s=some (s',e)):Hd s':=by
 obtain⟨p,hp,v,k,h1,h2,_,rfl,_⟩:=iG hr;exact h.set ((h.at h1).of rfl rfl)
theorem Ad:∀(n:Nat){s:St},Hd s->Hd (dt n s).1
 | 0,_,h=>h
 | n+1,s,h=>by
  unfold dt;cases hr:refuse s with
  | none=>exact h
  | some p=>
   obtain⟨s',e⟩:=p;exact Ad n (H7 h hr)
theorem H8{s:St}(h:Hd s)(i:Nat)(q:Int):Hd (eX s i q).1:=by
 unfold eX;split
 .rename_i v l h1 h2;cases dY l.holder 0 with
  | true=>exact h.set ((h.at h1).of rfl rfl)
  | false=>exact h.set ((h.at h1).zero rfl rfl)
 .exact h
theorem BW:∀(L:List (Nat×Int)){s:St},Hd s->Hd (eD s L).1
 | [],_,h=>h
 | (i,q)::r,s,h=>BW r (H8 h i q)
theorem sW{s:St}(h:Hd s):Hd (settle s).1:=BW _ (Ad _ (J1 h))
theorem FQ{s:St}(h:Hd s)(q:Int)(t:Bool):Hd (free s q t).1:=by
 unfold free;split
 .exact h
 .split
  .exact h
  .split
   .exact h
   .rename_i v hv;exact h.set ((h.at hv).zero rfl rfl)
theorem LI{s:St}(h:Hd s)(i:Nat):Hd (gT s i).1:=by
 unfold gT;split
 .exact h
 .rename_i v hv;have hV:=h.at hv;split
  .exact h
  .rename_i j r hj;simp only;have key:∀a:St×List Ev,Hd a.1->Hd (match a.1.servs[i]? with
    | none=>a
    | some w=>bif cT (eJ j).1.at_ (am j.prog.length) then ({ a.1 with servs:=a.1.servs.set i { w with jobs:=r } },a.2++[dU s 2 w.id j.num])
     else ({ a.1 with servs:=a.1.servs.set i { w with jobs:=(eJ j).1::r } },a.2)).1:=by
    intro a ha;split
    .exact ha
    .rename_i w hw;cases cT (eJ j).1.at_ (am j.prog.length)with
     | true=>exact ha.set ((ha.at hw).of rfl rfl)
     | false=>exact ha.set ((ha.at hw).of rfl rfl)
   cases cT j.done (dD j).1.2 with
   | true=>
    simp only[cond_true];refine key _ ?_;cases cT v.sec 2 with
    | true=>exact FQ (s:={ s with servs:=s.servs.set i { v with sec:=0 } }) (h.set (hV.of rfl rfl)) _ _
    | false=>exact h
   | false=>
    simp only[cond_false];cases (cT v.sec 2&&(match s.sems[((dD j).1.1-1).toNat]? with|some l=>cT v.held l.most|none=>false))with
    | true=>exact FQ (s:={ s with servs:=s.servs.set i { v with jobs:=r,sec:=0 } }) (h.set (hV.of rfl rfl)) _ _
    | false=>exact h
theorem LJ{s:St}(h:Hd s)(i:Nat):Hd (lM s i).1:=by
 unfold lM;split
 .exact h
 .rename_i v hv;split
  .exact h.set ((h.at hv).of rfl rfl)
  .exact h
theorem FS:∀(l:List Nat){s:St},Hd s->Hd (ends s l).1
 | [],_,h=>h
 | i::r,s,h=>FS r (LJ (LI h i) i)
theorem LK{R:Int}{x:Serv}(h:HO x)(hR:x.ran<=R)(hR2:R<=4611686018427387904):HO (gy x):=by
 unfold HO at *;have e1:bh .i64 x.ran 1=x.ran+1:=dI (by omega) (by omega);have e2:bh .i64 x.held 1=x.held+1:=dI (by omega) (by omega);rw[mJ];show 0<=pA x/\pA x<=bh .i64 x.ran 1;rw[e1];unfold pA;split
 .omega
 .split
  .omega
  .cases cT x.sec 2 with
   | true=>simp only[cond_true,e2];omega
   | false=>simp only[cond_false];omega
theorem Bh{B:Int}{s:St}(hI:Iv B s)(h:Hd s):Hd (tick s).1:=by
 by_cases hn:s.now<4611686018427387904
 .rw[rp hn];simp only;obtain⟨s1,s2,s3⟩:=jJ hI;have hS:=sW h;have hL:=ml s1 s2;have hn2:=s1.now2;refine FS _ ?_;intro x hx;obtain⟨j,hj⟩:=List.getElem?_of_mem hx;have hj':(runs (settle s).1 ((aQ (settle s).1).map (at_ (settle s).1.servs))).servs[j]? = some x:=hj;rw[(mK _ _ hL.1).2.2.2.2.2]at hj';split at hj'
  .obtain⟨y,hy,rfl⟩:=Option.map_eq_some_iff.1 hj';exact LK (hS.at hy) (s1.ran y (List.mem_of_getElem? hy)).2 hn2
  .exact hS.at hj'
 .unfold tick;rw[show leI rn s.now=true from fU.2 (by show (4611686018427387904:Int)<=s.now;omega)];exact h
theorem yW{B:Int}{s:St}(hI:Iv B s)(h:Hd s):∀k,Hd (dL k s)
 | 0=>h
 | k+1=>Bh (rQ hI k).1 (yW hI h k)
end
end Go.AX.pm
