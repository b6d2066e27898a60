/-
  OWN WORK. internal/reflectlite's ENTRIES AS SUMMARIES: what errors.Is and errors.As ask of types and values. (The entries' answers at a program's types are closed facts, asked for here as premises.)
-/
import Derived.Test.YtjefcmlnclnbeaaDoorAxExt
namespace Go.AX

variable [Kap]
open Go

variable {P : Program} {φ : Phi} {m : Mem} {w : World}

/-- a type's handle -/
def hT (G t : Nat) : Value := .pointer (some ⟨G, t, none⟩)

omit [Kap] in
theorem VR.hT (h0 : R0 P φ m w) (t : Nat) : VR φ (hT P.globals.size t) (typeHandle P t) := by
  obtain ⟨l, h1, h2, h3⟩ := h0.glob _ (Nat.le_refl _)
  have := VR.ptr (φ := φ) P.globals.size t l h1
  rw [h2, h3, Nat.zero_add] at this
  exact this

omit [Kap] in
theorem VR.hT_eq (h0 : R0 P φ m w) {t : Nat} {v' : Value} (h : VR φ (AX.hT P.globals.size t) v') : v' = typeHandle P t := by
  obtain ⟨l, h1, h2, h3⟩ := h0.glob _ (Nat.le_refl _)
  cases h with
  | ptr b off l' h =>
    rw [h1] at h; cases h
    rw [h2, h3, Nat.zero_add]; rfl

/-- answers that mean the same in every world -/
def PlainH (P : Program) (v : Value) : Prop := (∃ b, v = .bool b) ∨ (∃ k n, v = .int k n) ∨ ∃ u t, v = .iface u (.agg #[AX.hT P.globals.size t])

omit [Kap] in
theorem VR.agg1 {x x' : Value} (h : VR φ x x') : VR φ (.agg #[x]) (.agg #[x']) := by
  refine .agg _ _ rfl fun i v v' h1 h2 => ?_
  cases i with
  | zero => cases h1; cases h2; exact h
  | succ i => simp at h1

omit [Kap] in
theorem VR.agg1_inv {x v' : Value} (h : VR φ (.agg #[x]) v') : ∃ x', v' = .agg #[x'] ∧ VR φ x x' := by
  cases h with
  | agg _ c' hc hcv =>
    obtain ⟨l'⟩ := c'
    match l', hc with
    | [x'], _ => exact ⟨x', rfl, hcv 0 _ _ rfl rfl⟩

omit [Kap] in
theorem PlainH.vr {v : Value} (h : PlainH P v) (h0 : R0 P φ m w) : VR φ v v := by
  rcases h with ⟨b, rfl⟩ | ⟨k, n, rfl⟩ | ⟨u, t, rfl⟩
  · exact .bool b
  · exact .int k n
  · exact .iface _ _ _ (VR.agg1 (VR.hT h0 t))

/-- which type a handle tells -/
def offT (G : Nat) : Value → Option Nat
  | .pointer (some a) => match a.spot, Nat.beq a.block G with
    | none, true => some a.off
    | _, _ => none
  | _ => none

omit [Kap] in
theorem offT_eq {G t : Nat} {v : Value} (h : offT G v = some t) : v = hT G t := by
  unfold offT at h
  split at h
  · rename_i a
    obtain ⟨b, o, sp⟩ := a
    split at h
    · rename_i h1 h2
      cases h
      have := Nat.eq_of_beq_eq_true h2
      simp only at h1 this
      subst h1; subst this
      rfl
    · cases h
  · cases h

/-- a method of rtype -/
def methA (G : Nat) (T : List (Nat × Value)) : List Value → Mem → Option (Value × Mem)
  | [.agg c], m => match c.toList with
    | [h] => match offT G h with
      | some t => match T.find? (fun x => Nat.beq x.1 t) with
        | some x => some (x.2, m)
        | none => none
      | none => none
    | _ => none
  | _, _ => none

omit [Kap] in
theorem find_nat {α : Type} {T : List (Nat × α)} {t : Nat} {x : Nat × α} (h : T.find? (fun x => Nat.beq x.1 t) = some x) : x ∈ T ∧ x.1 = t :=
  ⟨List.mem_of_find?_eq_some h, Nat.eq_of_beq_eq_true (List.find?_some (p := fun x : Nat × α => Nat.beq x.1 t) h)⟩

/-- an entry that leaves the world -/
theorem still_ok {k : FuncId} {fn : Func} {g : Array Value → Sem Value} {f : List Value → Mem → Option (Value × Mem)} (hf : P.funcs[k]? = some fn) (hn : (fn.name == "runtime.NumGoroutine") = false) (hb : fn.body.isNone = true) (hx : Extern.findNext fn = none)
    (he : Extern.find fn = some g)
    (h : ∀ (args : List Value) (m : Mem) (v : Value) (m' : Mem), f args m = some (v, m') → ∀ (φ : Phi) (w : World) (args' : Array Value), LR φ args args'.toList → RR P φ m w → m' = m ∧ ∃ v', (g args').run P w = .ok v' w ∧ VR φ v v') : SumOk P k f := by
  intro args m v m' ha φ w args' hl hr
  obtain ⟨rfl, v', h1, h2⟩ := h args m v m' ha φ w args' hl hr
  refine .inr ⟨v', w, ?_, v', φ, rfl, h2, hr, Stp.refl _ _ _⟩
  rw [run_callFunc_extern hf hn hb hx he, h1]
  rfl

theorem meth_ok {k : FuncId} {fn : Func} {g : Array Value → Sem Value} {T : List (Nat × Value)} (hf : P.funcs[k]? = some fn) (hn : (fn.name == "runtime.NumGoroutine") = false) (hb : fn.body.isNone = true) (hx : Extern.findNext fn = none)
    (he : Extern.find fn = some g) (hT : ∀ x ∈ T, (∀ w, (g #[.agg #[typeHandle P x.1]]).run P w = .ok x.2 w) ∧ PlainH P x.2) : SumOk P k (methA P.globals.size T) := by
  refine still_ok hf hn hb hx he fun args m v m' h φ w args' hl hr => ?_
  unfold methA at h
  split at h
  · rename_i c
    split at h
    · rename_i hd hc
      split at h
      · rename_i t ht
        split at h
        · rename_i x hfd
          cases h
          obtain ⟨h1, h2⟩ := find_nat hfd
          subst h2
          obtain ⟨x1, r1, e1, g1, hl⟩ := hl.one
          rw [hl.none] at e1
          obtain ⟨l'⟩ := args'
          simp only at e1
          subst e1
          obtain ⟨cl⟩ := c
          simp only at hc
          subst hc
          obtain ⟨y, rfl, g2⟩ := g1.agg1_inv
          rw [offT_eq ht] at g2
          rw [g2.hT_eq hr.r0]
          exact ⟨rfl, x.2, (hT x h1).1 w, (hT x h1).2.vr hr.r0⟩
        · cases h
      · cases h
    · cases h
  · cases h

/-- a method of abi.Type -/
def abiA (G : Nat) (T : List (Nat × Value)) : List Value → Mem → Option (Value × Mem)
  | [h], m => match offT G h with
    | some t => match T.find? (fun x => Nat.beq x.1 t) with
      | some x => some (x.2, m)
      | none => none
    | none => none
  | _, _ => none

theorem abi_ok {k : FuncId} {fn : Func} {g : Array Value → Sem Value} {T : List (Nat × Value)} (hf : P.funcs[k]? = some fn) (hn : (fn.name == "runtime.NumGoroutine") = false) (hb : fn.body.isNone = true) (hx : Extern.findNext fn = none)
    (he : Extern.find fn = some g) (hT : ∀ x ∈ T, (∀ w, (g #[typeHandle P x.1]).run P w = .ok x.2 w) ∧ PlainH P x.2) : SumOk P k (abiA P.globals.size T) := by
  refine still_ok hf hn hb hx he fun args m v m' h φ w args' hl hr => ?_
  unfold abiA at h
  split at h
  · rename_i hd
    split at h
    · rename_i t ht
      split at h
      · rename_i x hfd
        cases h
        obtain ⟨h1, h2⟩ := find_nat hfd
        subst h2
        obtain ⟨x1, r1, e1, g1, hl⟩ := hl.one
        rw [hl.none] at e1
        obtain ⟨l'⟩ := args'
        simp only at e1
        subst e1
        rw [offT_eq ht] at g1
        rw [g1.hT_eq hr.r0]
        exact ⟨rfl, x.2, (hT x h1).1 w, (hT x h1).2.vr hr.r0⟩
      · cases h
    · cases h
  · cases h

/-- Implements, AssignableTo -/
def relA (G rt : Nat) (T : List (Nat × Nat × Bool)) : List Value → Mem → Option (Value × Mem)
  | [.agg c, .iface u (.agg d)], m => match c.toList, d.toList, Nat.beq u rt with
    | [h1], [h2], true => match offT G h1, offT G h2 with
      | some t1, some t2 => match T.find? (fun x => Nat.beq x.1 t1 && Nat.beq x.2.1 t2) with
        | some x => some (.bool x.2.2, m)
        | none => none
      | _, _ => none
    | _, _, _ => none
  | _, _ => none

theorem rel_ok {k rt : Nat} {fn : Func} {g : Array Value → Sem Value} {T : List (Nat × Nat × Bool)} (hf : P.funcs[k]? = some fn) (hn : (fn.name == "runtime.NumGoroutine") = false) (hb : fn.body.isNone = true) (hx : Extern.findNext fn = none)
    (he : Extern.find fn = some g) (hT : ∀ x ∈ T, ∀ w, (g #[.agg #[typeHandle P x.1], .iface rt (.agg #[typeHandle P x.2.1])]).run P w = .ok (.bool x.2.2) w) : SumOk P k (relA P.globals.size rt T) := by
  refine still_ok hf hn hb hx he fun args m v m' h φ w args' hl hr => ?_
  unfold relA at h
  split at h
  · rename_i c u d
    split at h
    · rename_i h1 h2 hc hd hu
      have hu := Nat.eq_of_beq_eq_true hu
      subst hu
      split at h
      · rename_i t1 t2 ht1 ht2
        split at h
        · rename_i x hfd
          cases h
          have hm := List.mem_of_find?_eq_some hfd
          have hp := List.find?_some hfd
          simp only [Bool.and_eq_true] at hp
          have e1 := Nat.eq_of_beq_eq_true hp.1
          have e2 := Nat.eq_of_beq_eq_true hp.2
          subst e1; subst e2
          obtain ⟨x1, r1, q1, g1, hl⟩ := hl.one
          obtain ⟨x2, r2, q2, g2, hl⟩ := hl.one
          rw [hl.none] at q2
          rw [q2] at q1
          obtain ⟨l'⟩ := args'
          simp only at q1
          subst q1
          obtain ⟨cl⟩ := c
          obtain ⟨dl⟩ := d
          simp only at hc hd
          subst hc; subst hd
          obtain ⟨y, rfl, k1⟩ := g1.agg1_inv
          cases g2 with
          | iface _ _ z k2 =>
            obtain ⟨z, rfl, k3⟩ := k2.agg1_inv
            rw [offT_eq ht1] at k1
            rw [offT_eq ht2] at k3
            rw [k1.hT_eq hr.r0, k3.hT_eq hr.r0]
            exact ⟨rfl, _, hT x hm w, .bool _⟩
        · cases h
      · cases h
    · cases h
  · cases h

/-- TypeOf -/
def typeOfA (G rt : Nat) : List Value → Mem → Option (Value × Mem)
  | [.nilIface], m => some (.nilIface, m)
  | [.iface t _], m => some (.iface rt (.agg #[hT G t]), m)
  | _, _ => none

theorem typeOf_ok {k rt : Nat} {fn : Func} {g : Array Value → Sem Value} (hf : P.funcs[k]? = some fn) (hn : (fn.name == "runtime.NumGoroutine") = false) (hb : fn.body.isNone = true) (hx : Extern.findNext fn = none)
    (he : Extern.find fn = some g) (h1 : ∀ w, (g #[.nilIface]).run P w = .ok .nilIface w) (h2 : ∀ t v w, (g #[.iface t v]).run P w = .ok (.iface rt (.agg #[typeHandle P t])) w) : SumOk P k (typeOfA P.globals.size rt) := by
  refine still_ok hf hn hb hx he fun args m v m' h φ w args' hl hr => ?_
  unfold typeOfA at h
  split at h
  · cases h
    obtain ⟨x1, r1, q1, g1, hl⟩ := hl.one
    rw [hl.none] at q1
    obtain ⟨l'⟩ := args'
    simp only at q1
    subst q1
    cases g1
    exact ⟨rfl, _, h1 w, .nilIface⟩
  · cases h
    obtain ⟨x1, r1, q1, g1, hl⟩ := hl.one
    rw [hl.none] at q1
    obtain ⟨l'⟩ := args'
    simp only at q1
    subst q1
    cases g1
    exact ⟨rfl, _, h2 _ _ w, .iface _ _ _ (VR.agg1 (VR.hT hr.r0 _))⟩
  · cases h

/-! ## values -/

omit [Kap] in
theorem VR.agg3_inv {x y z v' : Value} (h : VR φ (.agg #[x, y, z]) v') : ∃ x' y' z', v' = .agg #[x', y', z'] ∧ VR φ x x' ∧ VR φ y y' ∧ VR φ z z' := by
  cases h with
  | agg _ c' hc hcv =>
    obtain ⟨l'⟩ := c'
    match l', hc with
    | [x', y', z'], _ => exact ⟨x', y', z', rfl, hcv 0 _ _ rfl rfl, hcv 1 _ _ rfl rfl, hcv 2 _ _ rfl rfl⟩

omit [Kap] in
theorem VR.agg3 {x y z x' y' z' : Value} (h1 : VR φ x x') (h2 : VR φ y y') (h3 : VR φ z z') : VR φ (.agg #[x, y, z]) (.agg #[x', y', z']) := by
  refine .agg _ _ rfl fun i v v' e e' => ?_
  match i with
  | 0 => cases e; cases e'; exact h1
  | 1 => cases e; cases e'; exact h2
  | 2 => cases e; cases e'; exact h3
  | i + 3 => simp at e

omit [Kap] in
theorem VR.some_inv {a : Addr} {v' : Value} (h : VR φ (.pointer (some a)) v') : ∃ a', v' = .pointer (some a') := by
  cases h; exact ⟨_, rfl⟩

/-- a Value: its type, where it lies, its flags -/
def valT (G : Nat) : Value → Option (Nat × Addr × Int)
  | .agg c => match c.toList with
    | [h, .pointer (some a), .int .u64 f] => match offT G h with
      | some t => some (t, a, f)
      | none => none
    | _ => none
  | _ => none

omit [Kap] in
theorem valT_eq {G t : Nat} {a : Addr} {f : Int} {v : Value} (h : valT G v = some (t, a, f)) : v = .agg #[hT G t, .pointer (some a), .int .u64 f] := by
  unfold valT at h
  split at h
  · rename_i c
    obtain ⟨cl⟩ := c
    split at h
    · rename_i hd a' f' hc
      split at h
      · rename_i t' ht
        cases h
        simp only at hc
        subst hc
        rw [offT_eq ht]
      · cases h
    · cases h
  · cases h

omit [Kap] in
theorem VR.valT (h0 : R0 P φ m w) {t : Nat} {a : Addr} {f : Int} {v v' : Value} (h : AX.valT P.globals.size v = some (t, a, f)) (hv : VR φ v v') : ∃ a', v' = .agg #[typeHandle P t, .pointer (some a'), .int .u64 f] ∧ VR φ (.pointer (some a)) (.pointer (some a')) := by
  rw [valT_eq h] at hv
  obtain ⟨x', y', z', rfl, h1, h2, h3⟩ := hv.agg3_inv
  obtain ⟨a', rfl⟩ := h2.some_inv
  cases h3
  rw [h1.hT_eq h0]
  exact ⟨a', rfl, h2⟩

/-- Value.Type -/
def vtypeA (G rt : Nat) (T : List (Nat × Int)) : List Value → Mem → Option (Value × Mem)
  | [v], m => match valT G v with
    | some (t, _, f) => match T.any (fun x => Nat.beq x.1 t && decide (x.2 = f)) with
      | true => some (.iface rt (.agg #[hT G t]), m)
      | false => none
    | none => none
  | _, _ => none

omit [Kap] in
theorem any_pair {T : List (Nat × Int)} {t : Nat} {f : Int} (h : (T.any fun x => Nat.beq x.1 t && decide (x.2 = f)) = true) : (t, f) ∈ T := by
  rw [List.any_eq_true] at h
  obtain ⟨x, h1, h2⟩ := h
  simp only [Bool.and_eq_true, decide_eq_true_iff] at h2
  have := Nat.eq_of_beq_eq_true h2.1
  obtain ⟨x1, x2⟩ := x
  simp only at this h2
  rw [← this, ← h2.2]; exact h1

theorem vtype_ok {k rt : Nat} {fn : Func} {g : Array Value → Sem Value} {T : List (Nat × Int)} (hf : P.funcs[k]? = some fn) (hn : (fn.name == "runtime.NumGoroutine") = false) (hb : fn.body.isNone = true) (hx : Extern.findNext fn = none)
    (he : Extern.find fn = some g) (hT : ∀ x ∈ T, ∀ a w, (g #[.agg #[typeHandle P x.1, .pointer (some a), .int .u64 x.2]]).run P w = .ok (.iface rt (.agg #[typeHandle P x.1])) w) : SumOk P k (vtypeA P.globals.size rt T) := by
  refine still_ok hf hn hb hx he fun args m v m' h φ w args' hl hr => ?_
  unfold vtypeA at h
  split at h
  · split at h
    · rename_i t a f hv
      split at h
      · rename_i hm
        cases h
        obtain ⟨x1, r1, q1, g1, hl⟩ := hl.one
        rw [hl.none] at q1
        obtain ⟨l'⟩ := args'
        simp only at q1
        subst q1
        obtain ⟨a', rfl, _⟩ := VR.valT hr.r0 hv g1
        exact ⟨rfl, _, hT _ (any_pair hm) a' w, .iface _ _ _ (VR.agg1 (VR.hT hr.r0 _))⟩
      · cases h
    · cases h
  · cases h

/-- Value.IsNil where the variable holds an address -/
noncomputable def visNilA (G : Nat) (T : List (Nat × Int)) : List Value → Mem → Option (Value × Mem)
  | [v], m => match valT G v with
    | some (t, a, f) => match T.any (fun x => Nat.beq x.1 t && decide (x.2 = f)), rowAtL m a 1 with
      | true, some [.pointer (some _)] => some (.bool false, m)
      | _, _ => none
    | none => none
  | _, _ => none

omit [Kap] in
theorem row_one (h0 : R0 P φ m w) {a a' : Addr} {v : Value} (h : rowAtL m a 1 = some [v]) (ha : VR φ (.pointer (some a)) (.pointer (some a'))) : ∃ v', w.cell? a' = some v' ∧ VR φ v v' := by
  obtain ⟨_, l', h1, _, h3⟩ := row_ok h0 h ha
  obtain ⟨x', r, rfl, g1, _⟩ := h1.one
  have := h3 0 x' rfl
  rw [show a'.add 0 = a' from rfl] at this
  exact ⟨x', this, g1⟩

theorem visNil_ok {k : Nat} {fn : Func} {g : Array Value → Sem Value} {T : List (Nat × Int)} (hf : P.funcs[k]? = some fn) (hn : (fn.name == "runtime.NumGoroutine") = false) (hb : fn.body.isNone = true) (hx : Extern.findNext fn = none)
    (he : Extern.find fn = some g) (hT : ∀ x ∈ T, ∀ a p w, w.cell? a = some (.pointer (some p)) → (g #[.agg #[typeHandle P x.1, .pointer (some a), .int .u64 x.2]]).run P w = .ok (.bool false) w) : SumOk P k (visNilA P.globals.size T) := by
  refine still_ok hf hn hb hx he fun args m v m' h φ w args' hl hr => ?_
  unfold visNilA at h
  split at h
  · split at h
    · rename_i t a f hv
      split at h
      · rename_i hm hrow
        cases h
        obtain ⟨x1, r1, q1, g1, hl⟩ := hl.one
        rw [hl.none] at q1
        obtain ⟨l'⟩ := args'
        simp only at q1
        subst q1
        obtain ⟨a', rfl, ga⟩ := VR.valT hr.r0 hv g1
        obtain ⟨v', hc, gv⟩ := row_one hr.r0 hrow ga
        obtain ⟨p', rfl⟩ := gv.some_inv
        exact ⟨rfl, _, hT _ (any_pair hm) a' p' w hc, .bool _⟩
      · cases h
    · cases h
  · cases h

/-- Value.Elem where the variable holds an address -/
noncomputable def velemA (G : Nat) (T : List ((Nat × Int) × Nat × Int)) : List Value → Mem → Option (Value × Mem)
  | [v], m => match valT G v with
    | some (t, a, f) => match T.find? (fun x => Nat.beq x.1.1 t && decide (x.1.2 = f)), rowAtL m a 1 with
      | some x, some [.pointer (some p)] => some (.agg #[hT G x.2.1, .pointer (some p), .int .u64 x.2.2], m)
      | _, _ => none
    | none => none
  | _, _ => none

theorem velem_ok {k : Nat} {fn : Func} {g : Array Value → Sem Value} {T : List ((Nat × Int) × Nat × Int)} (hf : P.funcs[k]? = some fn) (hn : (fn.name == "runtime.NumGoroutine") = false) (hb : fn.body.isNone = true) (hx : Extern.findNext fn = none)
    (he : Extern.find fn = some g) (hT : ∀ x ∈ T, ∀ a p w, w.cell? a = some (.pointer (some p)) → (g #[.agg #[typeHandle P x.1.1, .pointer (some a), .int .u64 x.1.2]]).run P w = .ok (.agg #[typeHandle P x.2.1, .pointer (some p), .int .u64 x.2.2]) w) : SumOk P k (velemA P.globals.size T) := by
  refine still_ok hf hn hb hx he fun args m v m' h φ w args' hl hr => ?_
  unfold velemA at h
  split at h
  · split at h
    · rename_i t a f hv
      split at h
      · rename_i x p hm hrow
        cases h
        have hmem := List.mem_of_find?_eq_some hm
        have hp := List.find?_some hm
        simp only [Bool.and_eq_true, decide_eq_true_iff] at hp
        have e1 := Nat.eq_of_beq_eq_true hp.1
        have e2 := hp.2
        subst e1; subst e2
        obtain ⟨x1, r1, q1, g1, hl⟩ := hl.one
        rw [hl.none] at q1
        obtain ⟨l'⟩ := args'
        simp only at q1
        subst q1
        obtain ⟨a', rfl, ga⟩ := VR.valT hr.r0 hv g1
        obtain ⟨v', hc, gv⟩ := row_one hr.r0 hrow ga
        obtain ⟨p', rfl⟩ := gv.some_inv
        exact ⟨rfl, _, hT _ hmem a' p' w hc, VR.agg3 (VR.hT hr.r0 _) gv (.int _ _)⟩
      · cases h
    · cases h
  · cases h

/-- Value.Set: one cell, of the same type -/
noncomputable def vsetA (G : Nat) (T : List (Nat × Int × Int)) : List Value → Mem → Option (Value × Mem)
  | [v, x], m => match valT G v, valT G x with
    | some (t, a, f), some (t2, b, f2) => match T.find? (fun x => Nat.beq x.1 t && Nat.beq x.1 t2 && decide (x.2.1 = f) && decide (x.2.2 = f2)), rowAtL m b 1 with
      | some _, some [y] => match storeL m a [y] with
        | some m' => match one1 y with
          | true => some (.tuple #[], m')
          | false => none
        | none => none
      | _, _ => none
    | _, _ => none
  | _, _ => none

theorem vset_ok {k : Nat} {fn : Func} {g : Array Value → Sem Value} {T : List (Nat × Int × Int)} (hf : P.funcs[k]? = some fn) (hn : (fn.name == "runtime.NumGoroutine") = false) (hb : fn.body.isNone = true) (hx : Extern.findNext fn = none)
    (he : Extern.find fn = some g) (hT : ∀ x ∈ T, ∀ a b y w w', w.cell? b = some y → y.oneCell' = true → (storeCells a [y]).run P w = .ok () w' →
      (g #[.agg #[typeHandle P x.1, .pointer (some a), .int .u64 x.2.1], .agg #[typeHandle P x.1, .pointer (some b), .int .u64 x.2.2]]).run P w = .ok (.tuple #[]) w') : SumOk P k (vsetA P.globals.size T) := by
  intro args m v m' h φ w args' hl hr
  unfold vsetA at h
  split at h
  · split at h
    · rename_i t a f t2 b f2 hv1 hv2
      split at h
      · rename_i x y hm hrow
        split at h
        · rename_i m2 hst
          split at h
          · rename_i hone
            cases h
            have hmem := List.mem_of_find?_eq_some hm
            have hp := List.find?_some hm
            simp only [Bool.and_eq_true, decide_eq_true_iff] at hp
            obtain ⟨⟨⟨p1, p2⟩, p3⟩, p4⟩ := hp
            have e1 := Nat.eq_of_beq_eq_true p1
            have e2 := Nat.eq_of_beq_eq_true p2
            obtain ⟨x1, r1, q1, g1, hl⟩ := hl.one
            obtain ⟨x2, r2, q2, g2, hl⟩ := hl.one
            rw [hl.none] at q2
            rw [q2] at q1
            obtain ⟨l'⟩ := args'
            simp only at q1
            subst q1
            obtain ⟨a', rfl, ga⟩ := VR.valT hr.r0 hv1 g1
            obtain ⟨b', rfl, gb⟩ := VR.valT hr.r0 hv2 g2
            obtain ⟨y', hc, gy⟩ := row_one hr.r0 hrow gb
            have hlr : LR φ [y] [y'] := ((LR.nil φ).cons gy).2 |> fun _ => ⟨rfl, fun i v v' h1 h2 => by
              cases i with
              | zero => cases h1; cases h2; exact gy
              | succ i => simp at h1⟩
            obtain ⟨w', h1, h2, h3, h4⟩ := storeL_ok hr.r0 hst ga hlr
            have ho : y'.oneCell' = true := hlr.one1 (by simp [hone]) y' (by simp)
            have hrun := hT x hmem a' b' y' w w' hc ho h1
            rw [e1, p3, p4] at hrun
            rw [show t2 = t from by rw [← e2, e1]]
            refine .inr ⟨.tuple #[], w', ?_, .tuple #[], φ, rfl, .tuple _ _ rfl (fun i v v' h => by simp at h), ⟨h2, by rw [h4]; exact hr.fresh, by rw [h4, h3.fl]; exact hr.fl⟩, h3⟩
            rw [run_callFunc_extern hf hn hb hx he, hrun]
            rfl
          · cases h
        · cases h
      · cases h
    · cases h
  · cases h

/-- ValueOf: a value of one cell, copied -/
noncomputable def valueOfA (G : Nat) (T : List (Nat × Int)) : List Value → Mem → Option (Value × Mem)
  | [.iface t v], m => match T.find? (fun x => Nat.beq x.1 t), one1 v with
    | some x, true => some (.agg #[hT G t, .pointer (some ⟨m.nx, 0, none⟩), .int .u64 x.2], (newCells m [v] t false).2)
    | _, _ => none
  | _, _ => none

theorem valueOf_ok {k : Nat} {fn : Func} {g : Array Value → Sem Value} {T : List (Nat × Int)} (hf : P.funcs[k]? = some fn) (hn : (fn.name == "runtime.NumGoroutine") = false) (hb : fn.body.isNone = true) (hx : Extern.findNext fn = none)
    (he : Extern.find fn = some g) (hT : ∀ x ∈ T, ∀ v w, v.oneCell' = true → (g #[.iface x.1 v]).run P w = .ok (.agg #[typeHandle P x.1, .pointer (some ⟨w.heap.size, 0, none⟩), .int .u64 x.2]) (w.alloc (.cells #[v] x.1))) : SumOk P k (valueOfA P.globals.size T) := by
  intro args m v m' h φ w args' hl hr
  unfold valueOfA at h
  split at h
  · rename_i t y
    split at h
    · rename_i x hm hone
      cases h
      obtain ⟨hmem, e1⟩ := find_nat hm
      obtain ⟨x1, r1, q1, g1, hl⟩ := hl.one
      rw [hl.none] at q1
      obtain ⟨l'⟩ := args'
      simp only at q1
      subst q1
      cases g1 with
      | iface _ _ y' gy =>
        have hlr : LR φ [y] [y'] := ⟨rfl, fun i v v' h1 h2 => by
          cases i with
          | zero => cases h1; cases h2; exact gy
          | succ i => simp at h1⟩
        have ho : y'.oneCell' = true := hlr.one1 (by simp [hone]) y' (by simp)
        have hrun := hT x hmem y' w ho
        rw [e1] at hrun
        obtain ⟨φ', e, h1, h2⟩ := new_ok (e := t) (c' := #[y']) (l := [y]) (loose := false) (s := 0) (id := m.nx) (n := m.nx + 1) (f := m.fl) hr.r0 hr.fresh_id rfl hr.fl (Nat.le_succ _) (Nat.le_refl _) (by simp) (fun i v v' e1 e2 => hlr.2 i v v' e1 (by simpa using e2)) (fun _ => ⟨rfl, rfl⟩) (fun e => by cases e)
        subst e
        refine .inr ⟨.agg #[typeHandle P t, .pointer (some ⟨w.heap.size, 0, none⟩), .int .u64 x.2], w.alloc (.cells #[y'] t), ?_, _, Phi.put φ m.nx ⟨w.heap.size, 0, [y].length, #[y'].size, 0⟩, rfl, ?_, ⟨h1, fresh_put hr.fresh, by have := hr.fl; show m.fl ≤ m.nx + 1; omega⟩, h2⟩
        · rw [run_callFunc_extern hf hn hb hx he, hrun]
          rfl
        · have hp := VR.ptr (φ := Phi.put φ m.nx ⟨w.heap.size, 0, [y].length, #[y'].size, 0⟩) m.nx 0 _ (Phi.put_self ..)
          exact VR.agg3 (VR.hT h1 _) hp (.int _ _)
    · cases h
  · cases h

end Go.AX
