/-
  OWN WORK. strings.Join BY ITS CONTRACT (the shelf's), as a summary.
-/
import Derived.Test.YtdeknemdeijljaaDoorAxExt
import Derived.Below
import Derived.Lib.AtoiErrMem
namespace Go.AX

variable [Kap]
open Go Go.RowKit

variable {P : Program} {φ : Phi} {m : Mem} {w w' : World}

omit [Kap] in
theorem VR.intTuple (φ : Phi) (T : TypeId) (a : Int) (r : Lib.NumEnd Int) : VR φ (Lib.intTuple T a r) (Lib.intTuple T a r) := by
  cases r
  · exact .tuple _ _ rfl ((LR.nil φ).cons .nilIface |>.cons (.int _ _)).2
  · exact .tuple _ _ rfl ((LR.nil φ).cons (.iface _ _ _ (.int _ _)) |>.cons (.int _ _)).2
  · exact .tuple _ _ rfl ((LR.nil φ).cons (.iface _ _ _ (.int _ _)) |>.cons (.int _ _)).2

theorem parseInt_ok (hkk : ¬ Kap.k) {k : FuncId} {fn : Func} {T e : TypeId} (hf : P.funcs[k]? = some fn) (hb : fn.body.isSome = true) (hn : (fn.name == "runtime.NumGoroutine") = false)
    (h0 : ∀ (s : ByteArray) (_ : s.size ≤ 9223372036854775806) (w : World),
      Calls P k #[.string s, .int .i64 10, .int .i64 64] w fun x w' => x = .returned (Lib.intTuple T (Lib.intSat 64 s.data.toList) (Lib.parseIntB 64 s.data.toList)) ∧ (w' = w ∨ ∃ t, w' = Lib.bytesWorld w e t)) : SumOk P k (parseIntA T) := by
  intro args m v m' h φ w args' hl hr
  obtain ⟨bd, hb⟩ := Option.isSome_iff_exists.1 hb
  refine .inl ⟨run_callFunc hf hb hn _ _, ?_⟩
  unfold parseIntA at h
  split at h
  · rename_i s
    split at h
    · rename_i hc
      have hc' := Nat.le_of_ble_eq_true hc
      cases h
      obtain ⟨x1, r1, e1, g1, hl⟩ := hl.one
      obtain ⟨x2, r2, e2, g2, hl⟩ := hl.one
      obtain ⟨x3, r3, e3, g3, hl⟩ := hl.one
      rw [hl.none] at e3; rw [e3] at e2; rw [e2] at e1
      obtain ⟨l'⟩ := args'
      simp only at e1; subst e1
      cases g1; cases g2; cases g3
      refine (h0 s (by omega) w).mono ?_
      rintro x w' ⟨rfl, rfl | ⟨t, rfl⟩⟩
      · exact ⟨_, φ, rfl, VR.intTuple .., hr, Stp.refl _ _ _⟩
      · exact ⟨_, φ, rfl, VR.intTuple .., hr.below (Lib.bytesWorld_below _ _ _), Stp.ofBelow hkk (Lib.bytesWorld_below _ _ _)⟩
    · cases h
  · cases h

theorem atoi_ok (hkk : ¬ Kap.k) {k : FuncId} {fn : Func} {T e : TypeId} (hf : P.funcs[k]? = some fn) (hb : fn.body.isSome = true) (hn : (fn.name == "runtime.NumGoroutine") = false)
    (h0 : ∀ (s : ByteArray) (_ : s.size ≤ 9223372036854775806) (w : World),
      Calls P k #[.string s] w fun x w' => x = .returned (Lib.intTuple T (Lib.atoiSat s.data.toList) (Lib.atoiAll s.data.toList)) ∧ (w' = w ∨ ∃ t, w' = Lib.bytesWorld w e t)) : SumOk P k (atoiA T) := by
  intro args m v m' h φ w args' hl hr
  obtain ⟨bd, hb⟩ := Option.isSome_iff_exists.1 hb
  refine .inl ⟨run_callFunc hf hb hn _ _, ?_⟩
  unfold atoiA at h
  split at h
  · rename_i s
    split at h
    · rename_i hc
      have hc' := Nat.le_of_ble_eq_true hc
      cases h
      obtain ⟨x1, r1, e1, g1, hl⟩ := hl.one
      rw [hl.none] at e1
      obtain ⟨l'⟩ := args'
      simp only at e1; subst e1
      cases g1
      refine (h0 s (by omega) w).mono ?_
      rintro x w' ⟨rfl, rfl | ⟨t, rfl⟩⟩
      · exact ⟨_, φ, rfl, VR.intTuple .., hr, Stp.refl _ _ _⟩
      · exact ⟨_, φ, rfl, VR.intTuple .., hr.below (Lib.bytesWorld_below _ _ _), Stp.ofBelow hkk (Lib.bytesWorld_below _ _ _)⟩
    · cases h
  · cases h

theorem clone_ok (hkk : ¬ Kap.k) {k : FuncId} {fn : Func} (hf : P.funcs[k]? = some fn) (hb : fn.body.isSome = true) (hn : (fn.name == "runtime.NumGoroutine") = false)
    (h0 : ∀ (s : ByteArray) (w : World) (_ : s.size ≤ 281474976710656),
      Calls P k #[.string s] w fun x w' => x = .returned (.string s) ∧ Below w.heap.size w w') : SumOk P k cloneA := by
  intro args m v m' h φ w args' hl hr
  obtain ⟨bd, hb⟩ := Option.isSome_iff_exists.1 hb
  refine .inl ⟨run_callFunc hf hb hn _ _, ?_⟩
  unfold cloneA at h
  split at h
  · rename_i s
    split at h
    · rename_i hc
      have hc' := Nat.le_of_ble_eq_true hc
      cases h
      obtain ⟨x1, r1, e1, g1, hl⟩ := hl.one
      rw [hl.none] at e1
      obtain ⟨l'⟩ := args'
      simp only at e1; subst e1
      cases g1
      refine (h0 s w (by omega)).mono ?_
      rintro x w' ⟨rfl, hbl⟩
      exact ⟨_, φ, rfl, .string _, hr.below hbl, Stp.ofBelow hkk hbl⟩
    · cases h
  · cases h

omit [Kap] in
theorem strsA_get {c : Tr Value} : ∀ {n i : Nat} {l : List ByteArray}, strsA c n i = some l → l.length = n ∧ ∀ (j : Nat) x, l[j]? = some x → c.get (i + j) = some (.string x)
  | 0, i, l, h => by
    simp only [strsA, Option.some.injEq] at h; subst h
    exact ⟨rfl, fun j x hx => by simp at hx⟩
  | n + 1, i, l, h => by
    unfold strsA at h
    split at h
    · rename_i s hs
      split at h
      · rename_i r hr
        simp only [Option.some.injEq] at h; subst h
        obtain ⟨h1, h2⟩ := strsA_get hr
        refine ⟨by simp [h1], fun j x hx => ?_⟩
        cases j with
        | zero => simp at hx; subst hx; exact hs
        | succ j =>
          have := h2 j x (by simpa using hx)
          rw [← this]; congr 1; omega
      · cases h
    · cases h

theorem join_ok (hkk : ¬ Kap.k) {k : FuncId} {fn : Func} (hf : P.funcs[k]? = some fn) (hb : fn.body.isSome = true) (hn : (fn.name == "runtime.NumGoroutine") = false)
    (h0 : ∀ (a : Option Addr) (c : Nat) (sep : ByteArray) (w : World), Calls P k #[.slice a 0 c, .string sep] w fun e w' => e = .returned (.string ⟨#[]⟩) ∧ w' = w)
    (h1 : ∀ (bk o c : Nat) (xs : List ByteArray) (sep : ByteArray) (w : World) (_ : ∀ (j : Nat) x, xs[j]? = some x → w.cell? ⟨bk, o + j, none⟩ = some (.string x)) (_ : bk < w.heap.size) (_ : xs.length ≤ 140737488355328) (_ : xs.length ≤ c)
      (_ : (Lib.join (xs.map (·.data.toList)) sep.data.toList).length ≤ 140737488355328),
      Calls P k #[.slice (some ⟨bk, o, none⟩) xs.length c, .string sep] w fun e w' => e = .returned (.string ⟨(Lib.join (xs.map (·.data.toList)) sep.data.toList).toArray⟩) ∧ Below w.heap.size w w') : SumOk P k joinA := by
  intro args m v m' h φ w args' hl hr
  obtain ⟨bd, hb⟩ := Option.isSome_iff_exists.1 hb
  refine .inl ⟨run_callFunc hf hb hn _ _, ?_⟩
  unfold joinA at h
  split at h
  · cases h
    obtain ⟨x1, r1, e1, g1, hl⟩ := hl.one
    obtain ⟨x2, r2, e2, g2, hl⟩ := hl.one
    rw [hl.none] at e2; rw [e2] at e1
    obtain ⟨l'⟩ := args'
    simp only at e1; subst e1
    cases g1; cases g2
    refine (h0 none 0 _ w).mono ?_
    rintro e w' ⟨rfl, rfl⟩
    exact ⟨_, φ, rfl, .string _, hr, Stp.refl _ _ _⟩
  · rename_i a n cap sep
    split at h
    · rename_i c kk e lo hg
      split at h
      · rename_i l hs
        split at h
        · rename_i hc
          simp only [Bool.and_eq_true] at hc
          have c1 := Nat.le_of_ble_eq_true hc.1.1.1
          have c2 := Nat.le_of_ble_eq_true hc.1.1.2
          have c3 := Nat.le_of_ble_eq_true hc.1.2
          have c4 := Nat.le_of_ble_eq_true hc.2
          cases h
          obtain ⟨x1, r1, e1, g1, hl⟩ := hl.one
          obtain ⟨x2, r2, e2, g2, hl⟩ := hl.one
          rw [hl.none] at e2; rw [e2] at e1
          obtain ⟨l'⟩ := args'
          simp only at e1; subst e1
          cases g2
          obtain ⟨hln, hget⟩ := strsA_get hs
          cases g1 with
          | sl b off _ _ cap' lc hlc hcr =>
            have hcc : n ≤ cap' := by
              rcases hcr with rfl | ⟨_, _, h3, _⟩
              · exact c2
              · omega
            obtain ⟨lc', h4, h5⟩ := hr.r0.obj _ _ hg
            dsimp only at h4
            rw [hlc] at h4; cases h4
            have hlt := h5.lt
            obtain ⟨c', h6, h7, h8, h9, h10, _⟩ := h5
            have := h1 lc.rb (lc.ro + off) cap' l sep w (fun j x hx => by
              obtain ⟨v, v', k1, k2, k3⟩ := h10 (off + j) (by
                have : j < l.length := (List.getElem?_eq_some_iff.1 hx).1
                dsimp only at c1
                omega)
              have k4 := hget j x hx
              dsimp only at k4
              rw [k1] at k4; cases k4
              cases k3
              simp only [World.cell?, h6]
              rw [Nat.add_assoc]; exact k2) hlt (by omega) (by omega) c4
            rw [hln] at this
            refine this.mono ?_
            rintro e w' ⟨rfl, hbl⟩
            exact ⟨_, φ, rfl, .string _, hr.below hbl, Stp.ofBelow hkk hbl⟩
          | slE a a' =>
            have : l = [] := List.length_eq_zero_iff.1 hln
            subst this
            refine (h0 _ 0 _ w).mono ?_
            rintro e w' ⟨rfl, rfl⟩
            exact ⟨_, φ, rfl, .string _, hr, Stp.refl _ _ _⟩
        · cases h
      · cases h
    · cases h
  · cases h

end Go.AX
