/-
  Package prog: arguments that are steps; own, same.
-/
import Derived.Test.YtnhpljcjdfffkaaDoorLaid
namespace Go.Proofs.YtnhpljcjdfffkaaDoor.vc
open Go Go.AX Go.ChangeShapes Go.WideShapes Go.ChangeAt Go.RowKit Go.Deep
set_option linter.unusedVariables false
set_option linter.unusedSimpArgs false
set_option maxRecDepth 100000

section
variable {H : Type} {enc : TypeId × Value → H} {w : World}

theorem steps_arg {r : Reach} {b0 : Nat} {v : Value} {d : DataW H} {ps : List MemPlace} (hval : Value.okWide Tryd.prog w r b0 22 v) (hd : DataW.Trod enc Tryd.prog w 0 (fun _ => true) true 22 v d ps) :
    ∃ a n c, ∃ l : List Stp2, v = .slice a n c ∧ n ≤ maxLen ∧ goodA (nOf Tryd.prog w) (.slice a n c) = true ∧ PS (mW Tryd.prog w) a n l ∧ ∀ x ∈ l, in64 x.1 ∧ in64 x.2 := by
  obtain ⟨a, n, c, h1, hn, h2, h3⟩ := slice_fields (fs := match Tryd.prog.underlying 39 with | some (.struct fs) => fs | _ => #[]) (e := 39) Tryd.underlying22 (by kernel_rfl) (by kernel_rfl) (by kernel_rfl) (by decide +kernel) hval hd
  obtain ⟨es, h4, h5⟩ := list_of (n := n) (R := fun i (e : Stp2) => (∃ b o, a = some ⟨b, o, none⟩ ∧ Cells encS (mW Tryd.prog w) b (o + i * 2) e) ∧ in64 e.1 ∧ in64 e.2) (by
    intro i hi
    obtain ⟨b, o, ha, _, hf⟩ := h3 i hi
    have field : ∀ (j : Nat) (t : TypeId), ((match Tryd.prog.underlying 39 with | some (.struct fs) => fs | _ => #[])[j]?).map (·.type) = some t → Tryd.prog.underlying t = some (.int .i64) → ∃ n, rd (mW Tryd.prog w) b (o + i * 2 + j) = some (.int .i64 n) ∧ in64 n := by
      intro j t hj hu
      obtain ⟨f, hj2, hj3⟩ := Option.map_eq_some_iff.1 hj
      subst hj3
      obtain ⟨x, y, k, hc, ht'⟩ := hf j f hj2
      exact rd_int hu hc ht'
    obtain ⟨n0, p0, q0⟩ := field 0 3 (by kernel_rfl) Tryd.underlying3
    obtain ⟨n1, p1, q1⟩ := field 1 2 (by kernel_rfl) Tryd.underlying2
    refine ⟨(n0, n1), ⟨b, o, ha, fun j v hv => ?_⟩, q0, q1⟩
    match j, hv with
    | 0, hv => cases hv; exact p0
    | 1, hv => cases hv; exact p1)
  refine ⟨a, n, c, es, h1, hn, h2, ⟨h4, fun i e he => (h5 i e he).1⟩, fun e he => ?_⟩
  obtain ⟨i, hi⟩ := List.getElem?_of_mem he
  exact (h5 i e hi).2

end

theorem own_ok {m : Mem} {a : Option Addr} {n c : Nat} {l : List Stp2} {Q : Value → Mem → Prop} (hw : Wf m) (hP : PS m a n l) (hn : n ≤ 1000)
    (h : ∀ a' n' c' m', Keep m m' → Grow m' a' n' c' 2 65 (l.flatMap encS) → PS m' a' n' l → Q (.slice a' n' c') m') : CallW cx 13 [.slice a n c] m Q := by
  apply F13_ok; unfold F13
  have hl := hP.1
  refine forN3 (n := n) (by omega) (fun k a3 n3 c3 m2 => Keep m m2 ∧ Grow m2 a3 n3 c3 2 65 ((l.take k).flatMap encS) ∧ (∀ b ∈ blk a3, m.nx ≤ b)) ⟨Keep.refl hw, Grow.nil _ _ _, fun _ h => by cases h⟩ ?_
  rintro k a3 n3 c3 m2 hk ⟨k2, hG, hb⟩ I w hI
  refine split_lt (fun hlt => ?_) (fun hge => ?_)
  · rw [mBind_iff]
    have k3 : Keep m (AX.bump m2 15) := k2.bump
    have k23 : Keep m2 (AX.bump m2 15) := (Keep.refl k2.wf).bump
    obtain ⟨x, hx⟩ := ArrP.get hP hlt
    refine PS.open (hP.keep hw k3) hx fun b o r1 _ => ⟨x.1, r1, PS.open (hP.keep hw k3) hx fun b' o' _ r2 => ⟨x.2, r2, ?_⟩⟩
    have hw3 := k3.wf
    have hG3 := k23.grow k2.wf hG
    have hR : Row (AX.addO (AX.bump m2 15) (m2.nx + 12) (row (encS x) 65 false)) (m2.nx + 12) (encS x) 65 false := Row.of_row (by rw [addO_get, if_pos rfl])
    have k4 : Keep m (AX.addO (AX.bump m2 15) (m2.nx + 12) (row (encS x) 65 false)) := k3.addO (by have := k2.nx; omega) (by simp)
    have f4 : Keep m2 (AX.addO (AX.bump m2 15) (m2.nx + 12) (row (encS x) 65 false)) := k23.addO (by omega) (by simp)
    have hG4 := f4.grow k2.wf hG
    have hlen : n3 = k := by
      have h1 := hG.1
      rw [flat_length encS_len, List.length_take, Nat.min_eq_left (by omega)] at h1
      omega
    have hn3 : n3 ≤ 1000000 := by omega
    show ∃ a24 n24 c24 m3, appendA cx (AX.addO (AX.bump m2 15) (m2.nx + 12) (row (encS x) 65 false)) _ _ = _ ∧ _
    generalize AX.addO (AX.bump m2 15) (m2.nx + 12) (row (encS x) 65 false) = m4 at hR k4 f4 hG4 ⊢
    have hf1 := hR.rowAt (o := 0) (k := 2) (by simp [encS])
    simp only [List.drop_zero] at hf1
    rw [List.take_of_length_le (by simp [encS])] at hf1
    obtain ⟨m5, e5, A5⟩ := grow_ok (cx := cx) (t := 31) (tx := 31) (x := .slice (some ⟨m2.nx + 12, 0, none⟩) 1 1) (k := 1) k4 hG4 hb (by kernel_rfl) (by kernel_rfl) rfl (show rowAtL m4 ⟨m2.nx + 12, 0, none⟩ 2 = some (encS x) from hf1) rfl rfl (by omega) (by omega)
    refine ⟨_, _, _, m5, e5, ?_⟩
    rw [mBind_iff]
    refine hI _ _ _ _ hlt ⟨A5.keep, ?_, fun b'' h => ?_⟩
    · rw [List.take_add_one, hx, List.flatMap_append]
      simpa using A5.grow
    · have := k4.nx
      simp [blk] at h; omega
  · rw [List.take_of_length_le (by omega)] at hG
    exact h _ _ _ _ k2 hG (Arr.of_grow encS_len (by omega) hG)

theorem same_ok {m : Mem} {a a1 : Option Addr} {n c n1 c1 : Nat} {l l1 : List Stp2} {Q : Value → Mem → Prop} (hw : Wf m) (hP : PS m a n l) (hP1 : PS m a1 n1 l1) (hn : n ≤ 1000000)
    (h : ∀ m', Keep m m' → Q (.bool (decide (l = l1))) m') : CallW cx 12 [.slice a n c, .slice a1 n1 c1] m Q := by
  apply F12_ok; unfold F12
  have hl := hP.1
  have hl1 := hP1.1
  refine split_ne (fun hne => ?_) (fun he => ?_)
  · have := h m (Keep.refl hw)
    simp only [lenI] at hne
    rwa [decide_eq_false (fun e => by subst e; omega)] at this
  · simp only [lenI] at he
    refine forN (n := n) (by omega) (fun k m1 => Keep m m1 ∧ l.take k = l1.take k) ⟨Keep.refl hw, rfl⟩ ?_
    rintro k m1 hk ⟨k1, ht⟩ I w hI
    refine split_lt (fun hlt => ?_) (fun hge => ?_)
    · rw [mBind_iff]
      have k2 : Keep m (AX.bump m1 24) := k1.bump
      obtain ⟨x, hx⟩ := ArrP.get hP hlt
      obtain ⟨y, hy⟩ := ArrP.get hP1 (k := k) (by omega)
      have hno : x ≠ y → Q (.bool false) (AX.bump m1 24) := fun hxy => by
        have := h _ k2
        rwa [decide_eq_false (fun e => hxy (by subst e; rw [hx] at hy; exact Option.some.inj hy))] at this
      refine PS.open (hP.keep hw k2) hx fun b o r1 _ => ⟨x.1, r1, PS.open (hP1.keep hw k2) hy fun b' o' q1 _ => ⟨y.1, q1, split_ne (fun hne => hno fun e => hne (by rw [e])) fun he1 => ?_⟩⟩
      refine PS.open (hP.keep hw k2) hx fun b o _ r2 => ⟨x.2, r2, PS.open (hP1.keep hw k2) hy fun b' o' _ q2 => ⟨y.2, q2, split_ne (fun hne => hno fun e => hne (by rw [e])) fun he2 => ?_⟩⟩
      refine hI _ hlt ⟨k2, ?_⟩
      rw [List.take_add_one, List.take_add_one, ht, hx, hy, show x = y from Prod.ext he1 he2]
    · have := h m1 k1
      rwa [decide_eq_true (by
        rw [List.take_of_length_le (by omega), List.take_of_length_le (by omega)] at ht
        exact ht)] at this

end Go.Proofs.YtnhpljcjdfffkaaDoor.vc
