/-
  OWN WORK. A FUNCTION WITHOUT PARAMETERS THAT READS TABLES (package variables laid as plain data), as a summary: where the memory holds the tables.
-/
import Derived.Test.YtdeknemdeijljaaDoorAxOpen
namespace Go.AX

variable [Kap]
open Go Go.RowKit

/-- tables: which variable, what its cells hold -/
abbrev TabL := List (Nat × List Value)

def tabsIn (ts : TabL) (m : Mem) : Prop := ∀ x ∈ ts, ∀ i v, x.2[i]? = some v → rd m x.1 i = some v

open Classical in
noncomputable def trueT (ts : TabL) : List Value → Mem → Option (Value × Mem)
  | [], m => if tabsIn ts m then some (.bool true, m) else none
  | _, _ => none

noncomputable def tabHeapR : TabL → Tr AObj
  | [] => .nil
  | x :: r => (tabHeapR r).put x.1 (.ro (writeL .nil x.2 0) x.2.length)

noncomputable def tabMemR (P : Program) (ts : TabL) : Mem := ⟨tabHeapR ts, P.globals.size + 1, P.globals.size + 1⟩

omit [Kap] in
theorem tabHeapR_get : ∀ {ts : TabL} {b : Nat} {o : AObj}, (tabHeapR ts).get b = some o → ∃ x ∈ ts, x.1 = b ∧ o = .ro (writeL .nil x.2 0) x.2.length
  | [], b, o, h => by rw [show (tabHeapR []).get b = none from Tr_nil_get b] at h; cases h
  | x :: r, b, o, h => by
    simp only [tabHeapR] at h
    rw [Tr.get_put] at h
    by_cases e : b = x.1
    · rw [if_pos e] at h; cases h
      exact ⟨x, List.mem_cons_self .., e.symm, rfl⟩
    · rw [if_neg e] at h
      obtain ⟨y, h1, h2⟩ := tabHeapR_get h
      exact ⟨y, List.mem_cons_of_mem _ h1, h2⟩

def TabsW (ts : TabL) (w : World) : Prop := ∀ x ∈ ts, ∃ (c : Array Value) (e : TypeId) (fr : Nat × Nat), w.heap[x.1]? = some (.cells c e fr) ∧ ∀ (i : Nat) (v : Value), x.2[i]? = some v → c[i]? = some v

noncomputable def φR (P : Program) (ts : TabL) : Phi := fun b => if b < P.globals.size + 1 then some ⟨b, 0, (match (tabHeapR ts).get b with | some (.ro _ n) => n | _ => 0), (match (tabHeapR ts).get b with | some (.ro _ n) => n | _ => 0), 0⟩ else none

omit [Kap] in
theorem tabR_rr {P : Program} {ts : TabL} {w : World} (hts : ∀ x ∈ ts, x.1 < P.globals.size ∧ x.2.all plain1 = true) (h : TabsW ts w) : RR P (φR P ts) (tabMemR P ts) w := by
  refine ⟨⟨?_, ?_, ?_⟩, ?_, Nat.le_refl _⟩
  · intro b o hb
    have hb' : (tabHeapR ts).get b = some o := hb
    obtain ⟨x, hx, rfl, rfl⟩ := tabHeapR_get hb'
    obtain ⟨h1, h2⟩ := hts x hx
    obtain ⟨c, e, fr, h3, h4⟩ := h x hx
    refine ⟨_, if_pos (Nat.lt_succ_of_lt h1), c, e, fr, h3, by rw [hb'], rfl, ?_, fun i v hi hv => ?_⟩
    · rw [Nat.zero_add]
      by_cases hz : x.2.length = 0
      · omega
      · have := h4 (x.2.length - 1) (x.2[x.2.length - 1]'(by omega)) (List.getElem?_eq_getElem (by omega))
        have := (Array.getElem?_eq_some_iff.1 this).1
        omega
    · rw [writeL_get, if_pos ⟨Nat.zero_le _, by omega⟩, Nat.sub_zero] at hv
      exact ⟨v, by rw [Nat.zero_add]; exact h4 i v hv, VR.plain1 _ (List.all_eq_true.1 h2 v (List.mem_of_getElem? hv))⟩
  · intro b1 b2 o1 o2 l1 l2 h1 h2 p1 p2 hr
    unfold φR at p1 p2
    split at p1
    · split at p2
      · cases p1; cases p2; exact hr
      · cases p2
    · cases p1
  · intro g hg
    exact ⟨_, if_pos (Nat.lt_succ_of_le hg), rfl, rfl⟩
  · intro b hb
    exact if_neg (by have : P.globals.size + 1 ≤ b := hb; omega)

theorem tabR_below {P : Program} {ts : TabL} {w w' : World} {φ' : Phi} {m' : Mem} (hts : ∀ x ∈ ts, x.1 < P.globals.size ∧ x.2.all plain1 = true) (h : Stp (φR P ts) (tabMemR P ts) w φ' m' w') : Below w.heap.size w w' :=
  ⟨h.os, h.tape, h.output, h.size, fun k hk => h.same k hk (by
    rintro ⟨b, o, l, h0, h1, _⟩
    obtain ⟨x, hx, rfl, _⟩ := tabHeapR_get h1
    have : P.globals.size + 1 ≤ x.1 := h0
    have := (hts x hx).1
    omega)⟩

omit [Kap] in
theorem plain1_eq {φ : Phi} {v v' : Value} (h : VR φ v v') (hp : plain1 v = true) : v' = v := by
  cases h <;> first | rfl | (simp [plain1] at hp)

omit [Kap] in
theorem tabsW_of {P : Program} {ts : TabL} {φ : Phi} {m : Mem} {w : World} (hts : ∀ x ∈ ts, x.1 < P.globals.size ∧ x.2.all plain1 = true) (hne : ∀ x ∈ ts, x.2 ≠ []) (hr : RR P φ m w) (h : tabsIn ts m) : TabsW ts w := by
  intro x hx
  obtain ⟨h1, h2⟩ := hts x hx
  obtain ⟨l, hl, hrb, hro⟩ := hr.r0.glob x.1 (Nat.le_of_lt h1)
  have key : ∃ (c' : Array Value) (e : TypeId) (fr : Nat × Nat), w.heap[x.1]? = some (.cells c' e fr) ∧ ∀ (i : Nat) (v : Value), rd m x.1 i = some v → ∃ v', c'[i]? = some v' ∧ VR φ v v' := by
    cases hx2 : x.2 with
    | nil => exact (hne x hx hx2).elim
    | cons v0 r =>
      obtain ⟨c, n, hc, _, _⟩ := rd_cells (h x hx 0 v0 (by rw [hx2]; rfl))
      cases ho : m.hp.get x.1 with
      | none => rw [ho] at hc; cases hc
      | some o =>
        obtain ⟨l', hl', hor⟩ := hr.r0.obj _ _ ho
        rw [hl] at hl'; cases hl'
        cases o with
        | cells c0 k e lo =>
          obtain ⟨c', g1, g2, g3, g4, g5, _⟩ := hor
          rw [hrb] at g1
          refine ⟨c', e, (0, 0), g1, fun i v hv => ?_⟩
          obtain ⟨c1, n1, e1, e2, e3⟩ := rd_cells hv
          rw [ho] at e1; cases e1
          obtain ⟨u, u', q1, q2, q3⟩ := g5 i e2
          rw [e3] at q1; cases q1
          rw [hro, Nat.zero_add] at q2
          exact ⟨u', q2, q3⟩
        | ro c0 k =>
          obtain ⟨c', e, fr, g1, g2, g3, g4, g5⟩ := hor
          rw [hrb] at g1
          refine ⟨c', e, fr, g1, fun i v hv => ?_⟩
          obtain ⟨c1, n1, e1, e2, e3⟩ := rd_cells hv
          rw [ho] at e1; cases e1
          obtain ⟨u', q2, q3⟩ := g5 i v e2 e3
          rw [hro, Nat.zero_add] at q2
          exact ⟨u', q2, q3⟩
        | map es cl => rw [ho] at hc; cases hc
        | iter s p => rw [ho] at hc; cases hc
  obtain ⟨c', e, fr, k1, k2⟩ := key
  refine ⟨c', e, fr, k1, fun i v hv => ?_⟩
  obtain ⟨v', k3, k4⟩ := k2 i v (h x hx i v hv)
  rw [k3, plain1_eq k4 (List.all_eq_true.1 h2 v (List.mem_of_getElem? hv))]

theorem trueT_sum {P : Program} {cx : Cx} (hcx : CxOk P cx) (hov : OvOk P cx) (hmix : P.follows .mixedOrders = true) {ts : TabL} {n k : Nat} {fn : Func} (hf : P.funcs[k]? = some fn) (hb : fn.body.isSome = true) (hn : (fn.name == "runtime.NumGoroutine") = false)
    (hts : ∀ x ∈ ts, x.1 < P.globals.size ∧ x.2.all plain1 = true) (hne : ∀ x ∈ ts, x.2 ≠ []) (h : isTrue (callN cx n k [] (tabMemR P ts)) = true) : SumOk P k (trueT ts) := by
  intro args m v m' ha φ w args' hl hr
  obtain ⟨bd, hb⟩ := Option.isSome_iff_exists.1 hb
  unfold trueT at ha
  split at ha
  · split at ha
    · rename_i hin
      cases ha
      have he : args' = #[] := by
        have := hl.nil_iff
        obtain ⟨l'⟩ := args'
        simp only at this
        rw [this]
      subst he
      refine .inl ⟨run_callFunc hf hb hn _ _, ?_⟩
      rcases hc : callN cx n k [] (tabMemR P ts) with _ | ⟨v, m1⟩
      · rw [hc] at h; cases h
      · rw [hc] at h
        have hv : v = .bool true := by
          unfold isTrue at h
          split at h
          · rename_i heq; cases heq; rfl
          · cases h
        subst hv
        refine (callN_ok hcx hov hmix hc (φR P ts) w #[] ⟨rfl, fun i v v' h => by simp at h⟩ (tabR_rr hts (tabsW_of hts hne hr hin))).mono ?_
        rintro e w' ⟨v', φ', rfl, hv, _, hs⟩
        have hg := tabR_below hts hs
        cases hv
        exact ⟨_, φ, rfl, .bool true,
          ⟨⟨fun b o h => by
            obtain ⟨l, h1, h2⟩ := hr.r0.obj b o h
            exact ⟨l, h1, h2.mono (fun _ _ h => h) (hg.block _ h2.lt)⟩, hr.r0.inj, hr.r0.glob⟩, hr.fresh, hr.fl⟩,
          ⟨fun _ _ h => h, fun _ h => .inr h, fun r hr _ => hg.block r hr, hg.size, hg.os, hg.tape, hg.output, Nat.le_refl _, rfl, fun _ _ => rfl, fun _ _ h => h, fun _ _ => rfl, hs.drawn⟩⟩
    · cases ha
  · cases ha

omit [Kap] in
theorem trueT_ok {cx : Cx} {k : Nat} {ts : TabL} {m : Mem} {Q : Value → Mem → Prop} (ho : cx.ov.get k = some (trueT ts)) (h : tabsIn ts m) (hq : Q (.bool true) m) : CallW cx k [] m Q :=
  CallW.ov ho (by unfold trueT; simp only [if_pos h]) hq

omit [Kap] in
/-- a table of integers, out of its reading -/
theorem rd_mW_tab {P : Program} {W : World} {g : Nat} {l : List Value} {t : TypeId} {fr : Nat × Nat} (h : W.heap[g]? = some (.cells l.toArray t fr)) (hp : l.all plain1 = true) : ∀ i v, l[i]? = some v → rd (mW P W) g i = some v := by
  intro i v hv
  refine rd_mW ?_ ?_
  · unfold World.cell?
    rw [h]
    simpa using hv
  · have := List.all_eq_true.1 hp v (List.mem_of_getElem? hv)
    cases v with
    | pointer a => cases a <;> simp [plain1] at this <;> rfl
    | slice a n c => cases a with
      | none => rfl
      | some a => simp [plain1] at this
    | map r => cases r <;> simp [plain1] at this <;> rfl
    | _ => first | rfl | (simp [plain1] at this)

end Go.AX
