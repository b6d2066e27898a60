/-
  OWN WORK. WHAT THE EXECUTOR LEAVES AS IT IS: the floor; that nothing lies behind the next block's number; reading changes no memory.
-/
import Derived.Test.YthpnifigjfplbaaGreatAxFrame
import Derived.Test.YthpnifigjfplbaaGreatAxHeap
namespace Go.AX
set_option linter.unusedSectionVars false
set_option linter.unusedSimpArgs false
set_option linter.unusedVariables false

variable {cx : Cx}

structure Nice (u u' : Mem) : Prop where
  wf : Wf u'
  fl : u'.fl = u.fl
  nx : u.nx ≤ u'.nx

section
variable {u : Mem}
theorem Nice.refl (hw : Wf u) : Nice u u := ⟨hw, rfl, Nat.le_refl _⟩
theorem Nice.trans {u1 u2 : Mem} (h : Nice u u1) (k : Nice u1 u2) : Nice u u2 := ⟨k.wf, k.fl.trans h.fl, Nat.le_trans h.nx k.nx⟩
theorem Nice.put (hw : Wf u) {b : Nat} (hb : b < u.nx) (o : AObj) : Nice u { u with hp := u.hp.put b o } := ⟨hw.addO hb, rfl, Nat.le_refl _⟩
theorem Nice.new (hw : Wf u) (o : AObj) : Nice u { hp := u.hp.put u.nx o, nx := u.nx + 1, fl := u.fl } := ⟨hw.newO, rfl, Nat.le_succ _⟩
theorem Nice.del (hw : Wf u) (b : Nat) : Nice u { u with hp := u.hp.del b } := ⟨⟨hw.1, fun b' hb' => by
  show (u.hp.del b).get b' = none
  rw [Tr.get_del]
  split
  · rfl
  · exact hw.2 b' hb'⟩, rfl, Nat.le_refl _⟩

theorem storeL_nice (hw : Wf u) {a : Addr} {l : List Value} {u' : Mem} (e : storeL u a l = some u') : Nice u u' := by
  unfold storeL at e
  split at e
  · cases e
  · split at e
    · rename_i hg
      split at e
      · cases e; exact Nice.put hw (hw.lt hg) _
      · cases e
    · cases e

theorem storeT_nice (hw : Wf u) {t : TypeId} {a : Addr} {v : Value} {u' : Mem} (e : storeT cx u t a v = some u') : Nice u u' := by
  unfold storeT at e
  split at e
  · split at e
    · exact storeL_nice hw e
    · cases e
  · cases e

theorem setO_nice (hw : Wf u) {b : Nat} {o ob : AObj} {u' : Mem} (hb : u.hp.get b = some ob) (e : setO u b o = some u') : Nice u u' := by
  unfold setO at e
  split at e
  · cases e; exact Nice.put hw (hw.lt hb) _
  · cases e

theorem newCells_nice (hw : Wf u) (l : List Value) (e : TypeId) (x : Bool) : Nice u (newCells u l e x).2 := Nice.new hw _

theorem buildSliceA_nice (hw : Wf u) {t : TypeId} {n : Nat} {ps : List (Nat × Value)} {v : Value} {u' : Mem} (e : buildSliceA cx u t n ps = some (v, u')) : Nice u u' := by
  unfold buildSliceA at e
  split at e
  · split at e
    · split at e
      · split at e
        · cases e; exact newCells_nice hw _ _ _
        · cases e
      · cases e
    · cases e
  · cases e

theorem makeSliceA_nice (hw : Wf u) {t : TypeId} {a b v : Value} {u' : Mem} (e : makeSliceA cx u t a b = some (v, u')) : Nice u u' := by
  unfold makeSliceA at e
  split at e
  · split at e
    · split at e
      · cases e; exact newCells_nice hw _ _ _
      · cases e
    · cases e
  · cases e

theorem giveUp_nice (hw : Wf u) {base : Option Addr} {e s cap : Nat} {u' : Mem} (k : giveUp u base e s cap = some u') : Nice u u' := by
  unfold giveUp at k
  split at k
  · cases k; exact Nice.refl hw
  · split at k
    · cases k; exact Nice.refl hw
    · split at k
      · split at k
        · cases k; exact Nice.refl hw
        · split at k
          · split at k
            · split at k
              · cases k; exact Nice.del hw _
              · cases k
            · cases k; exact Nice.refl hw
          · cases k
      · cases k

theorem appendT_nice (hw : Wf u) {el : TypeId} {i : TypeInfo} {base : Option Addr} {len cap n : Nat} {new : List Value} {v : Value} {u' : Mem} (e : appendT cx u el i base len cap n new = some (v, u')) : Nice u u' := by
  unfold appendT at e
  split at e
  · cases e
  · split at e
    · split at e
      · split at e
        · cases e; exact Nice.refl hw
        · split at e
          · rename_i hst; cases e; exact storeL_nice hw hst
          · cases e
      · split at e
        · cases e; exact Nice.refl hw
        · cases e
    · split at e
      · split at e
        · rename_i m1 hg hc3
          have k := giveUp_nice hw hg
          cases e; exact k.trans (newCells_nice k.wf _ _ _)
        · cases e
      · cases e

theorem appendZ_nice (hw : Wf u) {el : TypeId} {i : TypeInfo} {ux : TypeDesc} {x : Value} {base : Option Addr} {len cap : Nat} {v : Value} {u' : Mem} (e : appendZ cx u el i ux x base len cap = some (v, u')) : Nice u u' := by
  unfold appendZ at e
  split at e
  · split at e
    · exact appendT_nice hw e
    · cases e
  · cases e

theorem appendA_nice (hw : Wf u) {ts : List TypeId} {args : List Value} {v : Value} {u' : Mem} (e : appendA cx u ts args = some (v, u')) : Nice u u' := by
  unfold appendA at e
  split at e
  · split at e
    · split at e
      · split at e
        · split at e
          · cases e
          · split at e
            · split at e
              · split at e
                · cases e; exact Nice.refl hw
                · split at e
                  · rename_i hst; cases e; exact storeL_nice hw hst
                  · cases e
              · split at e
                · cases e; exact Nice.refl hw
                · cases e
            · split at e
              · split at e
                · rename_i m1 hg hc3
                  have k := giveUp_nice hw hg
                  cases e; exact k.trans (newCells_nice k.wf _ _ _)
                · cases e
              · cases e
        · cases e
      · exact appendZ_nice hw e
      · cases e
    · cases e
  · cases e

theorem copyA_nice (hw : Wf u) {ts : List TypeId} {args : List Value} {v : Value} {u' : Mem} (e : copyA cx u ts args = some (v, u')) : Nice u u' := by
  unfold copyA at e
  split at e
  · split at e
    · split at e
      · split at e
        · split at e
          · split at e
            · cases e; exact Nice.refl hw
            · split at e
              · rename_i hst; cases e; exact storeL_nice hw hst
              · cases e
          · cases e; exact Nice.refl hw
        · cases e
      · cases e
    · cases e
  · cases e

theorem mapUpdateA_nice (hw : Wf u) {t : TypeId} {x k v : Value} {u' : Mem} (e : mapUpdateA cx u t x k v = some u') : Nice u u' := by
  unfold mapUpdateA at e
  split at e
  · split at e
    · rename_i hg
      split at e
      · exact setO_nice hw hg e
      · exact setO_nice hw hg e
      · cases e
    · cases e
  · cases e

theorem mapEntryA_nice (hw : Wf u) {t : TypeId} {x k v : Value} {u' : Mem} (e : mapEntryA cx u t x k = some (v, u')) : Nice u u' := by
  unfold mapEntryA at e
  split at e
  · split at e
    · rename_i hg
      split at e
      · split at e
        · rename_i hs; cases e; exact setO_nice hw hg hs
        · cases e
      · split at e
        · split at e
          · rename_i hs; cases e; exact setO_nice hw hg hs
          · cases e
        · cases e
      · cases e
    · cases e
  · cases e

theorem entryStoreA_nice (hw : Wf u) {x s v : Value} {u' : Mem} (e : entryStoreA u x s v = some u') : Nice u u' := by
  unfold entryStoreA at e
  split at e
  · split at e
    · rename_i hg
      split at e
      · exact setO_nice hw hg e
      · cases e
    · cases e
  · cases e

theorem deleteA_nice (hw : Wf u) {t : TypeId} {x k : Value} {u' : Mem} (e : deleteA cx u t x k = some u') : Nice u u' := by
  unfold deleteA at e
  split at e
  · cases e; exact Nice.refl hw
  · split at e
    · rename_i hg
      split at e
      · exact setO_nice hw hg e
      · cases e; exact Nice.refl hw
      · cases e
    · cases e
  · cases e

theorem clearA_nice (hw : Wf u) {ts : List TypeId} {args : List Value} {v : Value} {u' : Mem} (e : clearA cx u ts args = some (v, u')) : Nice u u' := by
  unfold clearA at e
  split at e
  · split at e
    · split at e
      · cases e; exact Nice.refl hw
      · cases e; exact Nice.refl hw
      · split at e
        · split at e
          · split at e
            · rename_i hst; cases e; exact storeL_nice hw hst
            · cases e
          · cases e
        · cases e
    · cases e
  · cases e

theorem builtinA_nice (hw : Wf u) {b : Builtin} {ts : List TypeId} {args : List Value} {v : Value} {u' : Mem} (e : builtinA cx u b ts args = some (v, u')) : Nice u u' := by
  unfold builtinA at e
  (try dsimp only at e)
  cases b <;> (try dsimp only at e)
  case append => exact appendA_nice hw e
  case copy => exact copyA_nice hw e
  case len =>
    split at e
    · cases e; exact Nice.refl hw
    · cases e
  case cap =>
    split at e
    · cases e; exact Nice.refl hw
    · cases e
  case max =>
    split at e
    · split at e
      · cases e; exact Nice.refl hw
      · cases e
    · cases e
  case min =>
    split at e
    · split at e
      · cases e; exact Nice.refl hw
      · cases e
    · cases e
  case delete =>
    split at e
    · split at e
      · rename_i hd; cases e; exact deleteA_nice hw hd
      · cases e
    · cases e
  case clear => exact clearA_nice hw e
  all_goals cases e

end

def NiC (f : Caller) : Prop := ∀ k a u r u', f k a u = some (r, u') → Wf u → Nice u u'

section
variable {u : Mem}

theorem callA_nice {f : Caller} (hf : NiC f) (hw : Wf u) {tm : Tr Value} {sz : Nat} {c : Call} {v : Value} {u' : Mem} (e : callA cx f ⟨tm, sz, u⟩ c = some (v, u')) : Nice u u' := by
  unfold callA at e
  split at e
  · cases e
  · split at e
    · exact builtinA_nice hw e
    · split at e
      · exact hf _ _ _ _ _ e hw
      · cases e
    · split at e
      · split at e
        · exact hf _ _ _ _ _ e hw
        · cases e
      · cases e

theorem opA_nice {f : Caller} (hf : NiC f) (hw : Wf u) {tm : Tr Value} {sz : Nat} {o : Oper} {v : Option Value} {u' : Mem} (e : opA cx f ⟨tm, sz, u⟩ o = some (v, u')) : Nice u u' := by
  unfold opA at e
  (try dsimp only at e)
  cases ho : o.op <;> simp only [ho] at e
  all_goals (try (cases e; done))
  case alloc t =>
    split at e
    · cases e; exact newCells_nice hw _ _ _
    · cases e
  case box t x =>
    split at e
    · cases e; exact newCells_nice hw _ _ _
    · cases e
  case buildSlice t n ps =>
    split at e
    · split at e
      · rename_i hx; cases e; exact buildSliceA_nice hw hx
      · cases e
    · cases e
  case makeSlice t l c =>
    split at e
    · split at e
      · rename_i hx; cases e; exact makeSliceA_nice hw hx
      · cases e
    · cases e
  case makeMap t r =>
    cases r with
    | none => cases e; exact Nice.new hw _
    | some r => cases e
  case store t a x =>
    split at e
    · split at e
      · rename_i hx; cases e; exact storeT_nice hw hx
      · cases e
    · cases e
  case mapUpdate t x k y =>
    split at e
    · split at e
      · rename_i hx; cases e; exact mapUpdateA_nice hw hx
      · cases e
    · cases e
  case insert t x k y =>
    split at e
    · split at e
      · rename_i hx; cases e; exact mapUpdateA_nice hw hx
      · cases e
    · cases e
  case mapEntry t x k =>
    split at e
    · split at e
      · rename_i hx; cases e; exact mapEntryA_nice hw hx
      · cases e
    · cases e
  case entryStore t x s y =>
    split at e
    · split at e
      · rename_i hx; cases e; exact entryStoreA_nice hw hx
      · cases e
    · cases e
  case call c =>
    split at e
    · rename_i hx; cases e; exact callA_nice hf hw hx
    · cases e
  case pick c x y =>
    split at e
    · cases e; exact Nice.refl hw
    · cases e; exact Nice.refl hw
    · cases e
  case nilCheck x =>
    split at e
    · cases e; exact Nice.refl hw
    · cases e; exact Nice.refl hw
    · cases e; exact Nice.refl hw
    · cases e
  case makeInterface t x =>
    split at e
    · cases e
    · cases e; exact Nice.refl hw
    · cases e
  case binOp op t x y q =>
    split at e
    · split at e
      · split at e
        · cases e; exact Nice.refl hw
        · cases e
      · cases e
    · cases e
  all_goals (split at e)
  all_goals first
    | (cases e; done)
    | (cases e; exact Nice.refl hw)
    | (split at e <;> first | (cases e; done) | (cases e; exact Nice.refl hw))

/-- reading changes nothing -/
theorem opA_same {f : Caller} {tm : Tr Value} {sz : Nat} {o : Oper} {v : Option Value} {u' : Mem} (hk : kindO o.op ≠ 2) (e : opA cx f ⟨tm, sz, u⟩ o = some (v, u')) : u' = u := by
  unfold opA at e
  (try dsimp only at e)
  cases ho : o.op <;> simp only [ho] at e hk
  all_goals (try (exact absurd rfl hk))
  all_goals (try (cases e; done))
  case call c =>
    split at e
    · rename_i x m1 hx
      cases e
      unfold callA at hx
      split at hx
      · cases hx
      · split at hx
        · rename_i b hb
          unfold builtinA at hx
          obtain ⟨cal, ca, ct⟩ := c
          simp only at hb; subst hb
          (try dsimp only at hx)
          cases b <;> (try dsimp only at hx) <;> (try (exact absurd rfl hk))
          case len =>
            split at hx
            · cases hx; rfl
            · cases hx
          case cap =>
            split at hx
            · cases hx; rfl
            · cases hx
          case max =>
            split at hx
            · split at hx
              · cases hx; rfl
              · cases hx
            · cases hx
          case min =>
            split at hx
            · split at hx
              · cases hx; rfl
              · cases hx
            · cases hx
        · rename_i g hb
          obtain ⟨cal, ca, ct⟩ := c
          simp only at hb; subst hb
          exact absurd rfl hk
        · rename_i g n hb
          obtain ⟨cal, ca, ct⟩ := c
          simp only at hb; subst hb
          exact absurd rfl hk
    · cases e
  case pick c x y =>
    split at e
    · cases e; rfl
    · cases e; rfl
    · cases e
  case nilCheck x =>
    split at e
    · cases e; rfl
    · cases e; rfl
    · cases e; rfl
    · cases e
  case makeInterface t x =>
    split at e
    · cases e
    · cases e; rfl
    · cases e
  case binOp op t x y q =>
    split at e
    · split at e
      · split at e
        · cases e; rfl
        · cases e
      · cases e
    · cases e
  all_goals (split at e)
  all_goals first
    | (cases e; done)
    | (cases e; rfl)
    | (split at e <;> first | (cases e; done) | (cases e; rfl))

theorem putT_m {st st' : St} {dst : Option Tmp} {v : Option Value} {m : Mem} (e : putT st dst v m = some st') : st'.m = m ∧ st'.sz = st.sz := by
  unfold putT at e
  split at e
  · cases e; exact ⟨rfl, rfl⟩
  · split at e
    · split at e
      · cases e; exact ⟨rfl, rfl⟩
      · cases e; exact ⟨rfl, rfl⟩
    · cases e

theorem runOps_nice {f : Caller} (hf : NiC f) {ops : List Oper} : ∀ {rest : List Oper} {st st' : St}, Wf st.m → runOps cx f ops rest st = some st' → Nice st.m st'.m
  | [], st, st', hw, e => by unfold runOps at e; cases e; exact Nice.refl hw
  | o :: r, st, st', hw, e => by
    unfold runOps at e
    split at e
    · split at e
      · rename_i v m1 hop
        have k := opA_nice hf hw hop
        split at e
        · rename_i st1 hp
          obtain ⟨p1, p2⟩ := putT_m hp
          exact k.trans (by have := runOps_nice hf (by rw [p1]; exact k.wf) e; rw [p1] at this; exact this)
        · cases e
      · cases e
    · split at e
      · rename_i st1 hp
        obtain ⟨p1, p2⟩ := putT_m hp
        have := runOps_nice hf (by rw [p1]; exact hw) e; rw [p1] at this; exact this
      · cases e
    · cases e

/-! ## draws -/

structure DrWf (base top i : Nat) (d : Dr) : Prop where
  ids : ∀ e ∈ d.made, e.2.1 < base + i
  hist : ∀ h ∈ d.hist, Wf h.2.2.1 ∧ top ≤ h.2.2.1.nx
  le : base + i ≤ top

theorem addMade_wf {p : Nat → Bool} : ∀ {made : List (Nat × Nat × AObj)} {u : Mem}, Wf u → (∀ e ∈ made, e.2.1 < u.nx) → Wf (addMade p made u) ∧ (addMade p made u).nx = u.nx ∧ (addMade p made u).fl = u.fl
  | [], u, hw, _ => ⟨hw, rfl, rfl⟩
  | (i, id, o) :: r, u, hw, hid => by
    obtain ⟨h1, h2, h3⟩ := addMade_wf (p := p) (made := r) hw (fun e he => hid e (List.mem_cons_of_mem _ he))
    unfold addMade
    split
    · exact ⟨h1.addO (by rw [h2]; exact hid _ (List.mem_cons_self ..)), h2, h3⟩
    · exact ⟨h1, h2, h3⟩

theorem drawOp_nice {f : Caller} (hf : NiC f) {ops : List Oper} {o : Oper} {r : List Oper} {s : Nat} {q : List Nat} {i base top : Nat} {d d1 : Dr} {st : St} {v : Option Value} {u1 : Mem}
    (hw : Wf st.m) (ht : top ≤ st.m.nx) (hd : DrWf base top i d) (hlt : base + i < top) (e : drawOp cx f ops o r s q i base d st = some (v, u1, d1)) : Nice st.m u1 ∧ DrWf base top (i + 1) d1 := by
  have hids : ∀ e ∈ d.made, e.2.1 < st.m.nx := fun e he => by have := hd.ids e he; omega
  unfold drawOp at e
  split at e
  · split at e
    · unfold drawMake at e
      split at e
      · split at e
        · cases e
          exact ⟨Nice.refl hw, fun e he => by
            rcases List.mem_cons.1 he with rfl | he
            · show base + i < _; omega
            · have := hd.ids e he; omega, hd.hist, by omega⟩
        · cases e
      · cases e
    · unfold drawChange at e
      obtain ⟨a1, a2, a3⟩ := addMade_wf (p := newIn s d.took) hw hids
      have hh : ∀ h ∈ ((i, true, st.m, d.took) :: d.hist), Wf h.2.2.1 ∧ top ≤ h.2.2.1.nx := fun h he => by
        rcases List.mem_cons.1 he with rfl | he
        · exact ⟨hw, ht⟩
        · exact hd.hist h he
      split at e
      · cases e
      · split at e
        · split at e
          · split at e
            · split at e
              · rename_i x mm hop
                cases e
                have k := opA_nice hf a1 hop
                refine ⟨⟨k.wf, k.fl.trans a3, by have := k.nx; rw [a2] at this; exact this⟩, fun e he => by have := hd.ids e he; omega, ?_, by omega⟩
                intro h he
                rcases List.mem_cons.1 he with rfl | he
                · exact ⟨hw, ht⟩
                · exact hd.hist h he
              · cases e
            · cases e
          · split at e
            · rename_i x mm hop
              cases e
              have hfl : softFl ops base st.m.nx s i d q r ≤ st.m.nx := by
                unfold softFl
                split
                · omega
                · exact Nat.le_refl _
              have k := opA_nice hf (u := { addMade (newIn s d.took) d.made st.m with fl := softFl ops base st.m.nx s i d q r }) ⟨by show softFl _ _ _ _ _ _ _ _ ≤ (addMade _ _ _).nx; rw [a2]; exact hfl, a1.2⟩ hop
              have kn : st.m.nx ≤ mm.nx := by have := k.nx; rw [a2] at this; exact this
              refine ⟨⟨⟨Nat.le_trans hw.1 kn, k.wf.2⟩, rfl, kn⟩, fun e he => by have := hd.ids e he; omega, ?_, by omega⟩
              exact hh
            · cases e
        · split at e
          · rename_i x mm hop
            cases e
            have k := opA_nice hf a1 hop
            refine ⟨⟨k.wf, k.fl.trans a3, by have := k.nx; rw [a2] at this; exact this⟩, fun e he => by have := hd.ids e he; omega, ?_, by omega⟩
            intro h he
            rcases List.mem_cons.1 he with rfl | he
            · exact ⟨hw, ht⟩
            · exact hd.hist h he
          · cases e
  · unfold drawRead at e
    split at e
    · split at e
      · cases e
        exact ⟨Nice.refl hw, fun e he => by have := hd.ids e he; omega, hd.hist, by omega⟩
      · cases e
    · cases e
  · unfold drawPlain at e
    split at e
    · cases e
      exact ⟨Nice.refl hw, fun e he => by have := hd.ids e he; omega, hd.hist, by omega⟩
    · cases e

theorem runDraw_nice {f : Caller} (hf : NiC f) {ops : List Oper} {base top : Nat} : ∀ {rest : List Oper} {ss : List Nat} {i : Nat} {d : Dr} {st st' : St}, Wf st.m → top ≤ st.m.nx → DrWf base top i d → base + i + rest.length ≤ top →
    runDraw cx f ops base rest ss i d st = some st' → Nice st.m st'.m
  | [], ss, i, d, st, st', hw, ht, hd, hl, e => by
    unfold runDraw at e
    cases e
    obtain ⟨a1, a2, a3⟩ := addMade_wf (p := fun k => !hasBit d.took k) hw (fun e he => by have := hd.ids e he; omega)
    exact ⟨a1, a3, Nat.le_of_eq a2.symm⟩
  | o :: r, [], i, d, st, st', hw, ht, hd, hl, e => by unfold runDraw at e; cases e
  | o :: r, s :: q, i, d, st, st', hw, ht, hd, hl, e => by
    have hl' : base + i + (r.length + 1) ≤ top := hl
    unfold runDraw at e
    split at e
    · split at e
      · rename_i v m1 d1 hop
        obtain ⟨k1, k2⟩ := drawOp_nice hf hw ht hd (by omega) hop
        split at e
        · rename_i st1 hp
          obtain ⟨p1, p2⟩ := putT_m hp
          have := runDraw_nice hf (by rw [p1]; exact k1.wf) (by rw [p1]; exact Nat.le_trans ht k1.nx) k2 (by omega) e
          rw [p1] at this
          exact k1.trans this
        · cases e
      · cases e
    · split at e
      · rename_i st1 hp
        obtain ⟨p1, p2⟩ := putT_m hp
        have := runDraw_nice hf (by rw [p1]; exact hw) (by rw [p1]; exact ht) (d := d) (i := i + 1) ⟨fun e he => by have := hd.ids e he; omega, hd.hist, by omega⟩ (by omega) e
        rw [p1] at this
        exact this
      · cases e
    · cases e

end

/-! ## code -/

def NiR (f : Code → St → Option (Ex × St)) : Prop := ∀ c st ex st', f c st = some (ex, st') → Wf st.m → Nice st.m st'.m

/-- the summaries keep the floor, and leave nothing behind the next block's number -/
def OvNi (cx : Cx) : Prop := ∀ k f, cx.ov.get k = some f → ∀ a u r u', f a u = some (r, u') → Wf u → Nice u u'

theorem callOf_nice (ho : OvNi cx) {f : Code → St → Option (Ex × St)} (hf : NiR f) : NiC (callOf cx f) := by
  intro k a u r u' e hw
  unfold callOf at e
  cases hov : cx.ov.get k with
  | some g => rw [hov] at e; exact ho k g hov a u r u' e hw
  | none =>
    rw [hov] at e
    (try dsimp only at e)
    unfold callBody at e
    split at e
    · split at e
      · split at e
        · split at e
          · rename_i st hr
            have k := hf _ _ _ _ hr hw
            unfold retOf at e
            split at e
            · cases e; exact k
            · cases e
          · rename_i st hr
            have k := hf _ _ _ _ hr hw
            unfold retOf at e
            split at e
            · cases e; exact k
            · cases e
          · cases e
        · cases e
      · cases e
    · cases e

theorem step_nice (ho : OvNi cx) {f : Code → St → Option (Ex × St)} (hf : NiR f) : NiR (step cx f) := by
  intro c st ex st' e hw
  cases c with
  | skip => simp only [step] at e; cases e; exact Nice.refl hw
  | label l => simp only [step] at e; cases e; exact Nice.refl hw
  | exit id => simp only [step] at e; cases e; exact Nice.refl hw
  | ret => simp only [step] at e; cases e; exact Nice.refl hw
  | region id ops draw =>
    cases draw with
    | false =>
      simp only [step] at e
      split at e
      · rename_i st1 h1; cases e; exact runOps_nice (callOf_nice ho hf) hw h1
      · cases e
    | true =>
      simp only [step] at e
      split at e
      · split at e
        · rename_i st1 h1
          cases e
          have k := runDraw_nice (top := st.m.nx + ops.toList.length) (callOf_nice ho hf) (st := { st with m := { st.m with nx := st.m.nx + ops.toList.length } }) (hw.bump (n := ops.toList.length)) (Nat.le_refl _) ⟨(fun e he => by cases he), (fun h he => by cases he), Nat.le_add_right _ _⟩ (by omega) h1
          exact ⟨k.wf, k.fl, Nat.le_trans (Nat.le_add_right _ _) k.nx⟩
        · cases e
      · cases e
  | seq a b =>
    simp only [step] at e
    split at e
    · rename_i st1 h1
      have k := hf _ _ _ _ h1 hw
      exact k.trans (hf _ _ _ _ e k.wf)
    · exact hf _ _ _ _ e hw
  | cond o x y =>
    simp only [step] at e
    split at e
    · exact hf _ _ _ _ e hw
    · exact hf _ _ _ _ e hw
    · cases e
  | block id x =>
    simp only [step] at e
    split at e
    · rename_i h1
      split at e
      · cases e; exact hf _ _ _ _ h1 hw
      · cases e; exact hf _ _ _ _ h1 hw
    · exact hf _ _ _ _ e hw
  | loop x =>
    simp only [step] at e
    split at e
    · rename_i st1 h1
      have k := hf _ _ _ _ h1 hw
      exact k.trans (hf _ _ _ _ e k.wf)
    · exact hf _ _ _ _ e hw
  | rangeFunc _ _ _ _ => simp [step] at e
  | goto _ => simp [step] at e
  | scope _ => simp [step] at e
  | refuse _ => simp [step] at e

theorem exec_nice (ho : OvNi cx) : ∀ n, NiR (exec cx n)
  | 0 => fun c st ex st' e => by cases e
  | n + 1 => step_nice ho (exec_nice ho n)

theorem exec_call_nice (ho : OvNi cx) (n : Nat) : NiC (callOf cx (exec cx n)) := callOf_nice ho (exec_nice ho n)

end Go.AX
