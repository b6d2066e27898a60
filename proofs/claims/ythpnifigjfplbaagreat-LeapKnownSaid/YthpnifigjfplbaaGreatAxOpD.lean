/-
  OPERATIONS THAT LEAVE MEMORY ALONE: slices, indexes, fields, composite values, lookups, conversions, assertions.
-/
import Derived.Test.YthpnifigjfplbaaGreatAxOpC
namespace Go.AX

variable {P : Program} {cx : Cx} {φ : Phi} {m : Mem} {w : World}

def twin : Value → Value → Bool
  | .int _ _, .int _ _ => true
  | .float _ _, .float _ _ => true
  | .complex _ _ _, .complex _ _ _ => true
  | .string _, .string _ => true
  | _, _ => false

theorem binOp_eql (t : TypeId) (x y : Value) (h : twin x y = false) : binOp .eql t x y = (Op.equal t x y >>= fun b => pure (.bool b)) := by
  cases x <;> cases y <;> first | rfl | (simp [twin] at h)
theorem binOp_neq (t : TypeId) (x y : Value) (h : twin x y = false) : binOp .neq t x y = (Op.equal t x y >>= fun b => pure (.bool (!b))) := by
  cases x <;> cases y <;> first | rfl | (simp [twin] at h)

theorem twin_of {x y x' y' : Value} (hx : VR φ x x') (hy : VR φ y y') (h1 : ∀ k a k' b, x = .int k a → y = .int k' b → False) (h2 : ∀ a b, x = .string a → y = .string b → False) : twin x' y' = false := by
  cases hx <;> cases hy <;> first | rfl | exact (h1 _ _ _ _ rfl rfl).elim | exact (h2 _ _ rfl rfl).elim

theorem binOp_ok (hcx : CxOk P cx) (h0 : R0 P φ m w) {op : BinOp} {t : TypeId} {x y x' y' v : Value} (h : binOpA cx m op t x y = some v) (hx : VR φ x x') (hy : VR φ y y') :
    (binOp op t x' y').run P w = .ok v w ∧ VR φ v v := by
  have bool_plain : ∀ b, VR φ (.bool b) (.bool b) := fun b => .bool b
  simp only [binOpA] at h
  split at h
  · cases hx; cases hy
    split at h
    · refine ⟨shiftOp_ok (l := true) h w, ?_⟩
      simp only [shiftOp] at h
      split at h
      · cases h
      · simp only [Option.some.injEq] at h; subst h; exact .int _ _
    · refine ⟨shiftOp_ok (l := false) h w, ?_⟩
      simp only [shiftOp] at h
      split at h
      · cases h
      · simp only [Option.some.injEq] at h; subst h; exact .int _ _
    · rename_i n1 n2
      split at h
      · rename_i hk
        have hk' : _ = _ := of_decide_eq_true hk
        subst hk'
        refine ⟨intOp_ok (fun e => n1 e) (fun e => n2 e) h w, ?_⟩
        cases op <;> simp only [intOp, reduceCtorEq] at h <;>
          first
          | (simp only [Option.some.injEq] at h; subst h; first | exact .int _ _ | exact .bool _)
          | (split at h
             · cases h
             · simp only [Option.some.injEq] at h; subst h; exact .int _ _)
      · cases h
  · cases hx; cases hy
    refine ⟨stringOp_ok h w, ?_⟩
    cases op <;> simp only [stringOp, reduceCtorEq] at h <;>
      first
      | (simp only [Option.some.injEq] at h; subst h; first | exact .string _ | exact .bool _)
      | (split at h
         · simp only [Option.some.injEq] at h; subst h; exact .string _
         · cases h)
  · rename_i n1 n2
    have ht := twin_of hx hy (fun k a k' b e1 e2 => n1 k a k' b e1 e2) (fun a b e1 e2 => n2 a b e1 e2)
    split at h
    · split at h
      · rename_i b hb
        simp only [Option.some.injEq] at h; subst h
        refine ⟨?_, .bool _⟩
        rw [binOp_eql _ _ _ ht]
        simp [Op.equal, eqV_ok hcx h0 40 Op.maxDepth (by simp [Op.maxDepth]) _ _ _ _ _ _ hb hx hy]
      · cases h
    · split at h
      · rename_i b hb
        simp only [Option.some.injEq] at h; subst h
        refine ⟨?_, .bool _⟩
        rw [binOp_neq _ _ _ ht]
        simp [Op.equal, eqV_ok hcx h0 40 Op.maxDepth (by simp [Op.maxDepth]) _ _ _ _ _ _ hb hx hy]
      · cases h
    · cases h

theorem guard_nil {op : BinOp} {t : TypeId} {x y : Operand} (h : (isConstO x || isConstO y) = true) : (eqGuard op t x y .nilIface .nilIface).run P w = .ok () w := by
  cases op <;> cases x <;> cases y <;> first | rfl | (simp [isConstO] at h)

theorem guard_none {op : BinOp} {t : TypeId} {x y : Operand} (hu : P.underlying t = some (.interface #[])) : (eqGuard op t x y .nilIface .nilIface).run P w = .ok () w := by
  have gen : ∀ d, (Op.eqGuardIn (d + 1) t .nilIface .nilIface).run P w = .ok false w := by
    intro d
    simp only [Op.eqGuardIn, Sem.run_bind, run_underlying hu, Result.andThen_ok]
    rfl
  have key : (Op.eqGuardIn Op.maxDepth t .nilIface .nilIface).run P w = .ok false w := gen 9999
  cases op <;> first
    | rfl
    | (cases x <;> cases y <;> first | rfl | (unfold eqGuard; simp [key]))

theorem guard_agg {op : BinOp} {t : TypeId} {x y : Operand} {c c' : Array Value} (h : P.eqGuardType P.depth t = false) : (eqGuard op t x y (.agg c) (.agg c')).run P w = .ok () w := by
  cases op <;> first
    | rfl
    | (unfold eqGuard; simp [h])

theorem guard_other {op : BinOp} {t : TypeId} {x y : Operand} (h : op ≠ .eql) (h' : op ≠ .neq) (a b : Value) : (eqGuard op t x y a b).run P w = .ok () w := by
  cases op <;> first | (exact absurd rfl h) | (exact absurd rfl h') | rfl

theorem guard_flat (hcx : CxOk P cx) {t : TypeId} {fs : Array Field} (hfs : cx.un.get t = some (.struct fs)) (hall : ∀ f ∈ fs.toList, (match cx.un.get f.type with
            | some (.interface _) | some (.struct _) | some (.array _ _) | none => false
            | _ => true) = true) : P.eqGuardType P.depth t = false := by
  have hu := hcx.un _ _ hfs
  obtain ⟨d, hd⟩ : ∃ d, P.depth = d + 2 := ⟨_, rfl⟩
  rw [hd]
  simp only [Program.eqGuardType, hu]
  rw [← Array.any_toList, List.any_eq_false]
  intro f hf
  have := hall f hf
  cases hd0 : cx.un.get f.type with
  | none => simp [hd0] at this
  | some dd =>
    have hu' := hcx.un _ _ hd0
    simp only [hd0] at this
    simp only [hu']
    cases dd <;> simp at this ⊢

theorem guard_ok (hcx : CxOk P cx) {op : BinOp} {t : TypeId} {x y : Operand} {a b a' b' : Value} (h : guardEq cx op t x y a b = true) (ha : VR φ a a') (hb : VR φ b b') :
    (eqGuard op t x y a' b').run P w = .ok () w := by
  by_cases h1 : op = .eql ∨ op = .neq
  · have h2 : guardV cx t x y a b = true := by
      rcases h1 with rfl | rfl <;> exact h
    clear h
    unfold guardV at h2
    split at h2
    · cases ha; cases hb
      split at h2
      · rename_i hc; exact guard_nil hc
      · split at h2
        · rename_i ms hms
          have he : ms = #[] := by simpa using h2
          subst he
          exact guard_none (hcx.un _ _ hms)
        · cases h2
    · cases ha; cases hb
      split at h2
      · rename_i fs hfs
        exact guard_agg (guard_flat hcx hfs (fun f hf => List.all_eq_true.1 h2 f hf))
      · cases h2
    · rename_i n1 n2
      cases ha <;> cases hb <;> first
        | exact (n1 rfl rfl).elim
        | exact (n2 _ _ rfl rfl).elim
        | (rcases h1 with rfl | rfl <;> rfl)
  · exact guard_other (fun e => h1 (.inl e)) (fun e => h1 (.inr e)) _ _

end Go.AX
