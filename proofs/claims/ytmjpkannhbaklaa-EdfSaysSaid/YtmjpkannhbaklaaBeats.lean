/-
  Package edf: what ints, slices.Contains, Beats return.
-/
import Derived.Test.YtmjpkannhbaklaaEdf
namespace Go.Proofs.Ytmjpkannhbaklaa.vc
open Go Go.AX
set_option linter.unusedVariables false
set_option linter.unusedSimpArgs false

/-! ## slices.Index, Contains; ints -/

theorem index_ok {x : Int} {m : Mem} {a : Option Addr} {n c : Nat} {zs : List Int} {Q : Value → Mem → Prop} (hl : SlIs m a n (zs.map (Value.int .i64))) (hn : n ≤ 1000000)
    (h1 : ∀ k : Nat, zs[k]? = some x → Q (.int .i64 (k : Int)) m) (h2 : x ∉ zs → Q (.int .i64 (-1)) m) : CallW cx 39 [.slice a n c, .int .i64 x] m Q := by
  have hlen : zs.length = n := by have := hl.1; simpa using this
  apply F39_ok; unfold F39
  refine ⟨fun i m1 w => ∃ k : Nat, k ≤ n ∧ i = (k : Int) ∧ w = n - k ∧ m1 = m ∧ x ∉ zs.take k, ⟨n, 0, Nat.zero_le _, rfl, rfl, rfl, by simp⟩, ?_⟩
  rintro i m1 w ⟨k, hk, rfl, rfl, rfl, hno⟩
  rw [splitB_iff]
  refine ⟨fun e => ?_, fun e => ?_⟩
  · rw [ltI_true] at e
    have hkn : k < n := by unfold lenI at e; omega
    obtain ⟨y, hy⟩ : ∃ y, zs[k]? = some y := ⟨_, List.getElem?_eq_getElem (by rw [hlen]; exact hkn)⟩
    obtain ⟨b, o, rfl, h0⟩ := hl.2 k (.int .i64 y) (by rw [List.getElem?_map, hy]; rfl)
    refine ⟨⟨by omega, by omega⟩, ?_⟩
    rw [vPtr_some]
    refine ⟨y, by rw [Int.toNat_natCast, Nat.mul_one]; exact h0, ?_⟩
    rw [splitB_iff]
    refine ⟨fun e2 => ?_, fun e2 => ⟨n - (k + 1), less_w hkn, k + 1, hkn, inc64 (by omega), rfl, rfl, ?_⟩⟩
    · rw [eqI_true] at e2; subst e2; exact h1 k hy
    · rw [eqI_false] at e2
      rw [List.take_add_one, hy]
      simp only [Option.toList_some, List.mem_append, List.mem_singleton]
      rintro (q | q)
      · exact hno q
      · exact e2 q
  · rw [ltI_false] at e
    have : k = n := by unfold lenI at e; omega
    subst this
    rw [List.take_of_length_le (by omega)] at hno
    exact h2 hno

theorem contains_ok {x : Int} {m : Mem} {a : Option Addr} {n c : Nat} {zs : List Int} {Q : Value → Mem → Prop} (hl : SlIs m a n (zs.map (Value.int .i64))) (hn : n ≤ 1000000)
    (h : Q (.bool (decide (x ∈ zs))) m) : CallW cx 29 [.slice a n c, .int .i64 x] m Q := by
  apply F29_ok; unfold F29
  refine index_ok hl hn (fun k hk => ⟨_, rfl, ?_⟩) (fun hno => ⟨_, rfl, ?_⟩)
  · rw [decide_eq_true (List.mem_of_getElem? hk)] at h
    have : leI 0 (k : Int) = true := by rw [leI_true]; omega
    rw [this]; exact h
  · rw [decide_eq_false hno] at h
    have : leI 0 (-1) = false := by rw [leI_false]; omega
    rw [this]; exact h

theorem ints_ok {m : Mem} {a1 a2 : Option Addr} {n1 c1 n2 c2 : Nat} {ys zs : List Int} {Q : Value → Mem → Prop} (hw : Wf m) (h1 : SlIs m a1 n1 (ys.map (Value.int .i64))) (h2 : SlIs m a2 n2 (zs.map (Value.int .i64))) (hn : n1 ≤ 1000000)
    (h : ∀ m', Keep m m' → Q (.bool (decide (ys = zs))) m') : CallW cx 13 [.slice a1 n1 c1, .slice a2 n2 c2] m Q := by
  have l1 : ys.length = n1 := by have := h1.1; simpa using this
  have l2 : zs.length = n2 := by have := h2.1; simpa using this
  apply F13_ok; unfold F13
  rw [splitB_iff]
  refine ⟨fun e => ?_, fun e => ?_⟩
  · rw [neI_true] at e
    have := h m (Keep.refl hw)
    rw [decide_eq_false (fun q => e (by unfold lenI; rw [← l1, ← l2, q]))] at this
    exact this
  · rw [neI_false] at e
    have en : n1 = n2 := by unfold lenI at e; omega
    subst en
    refine ⟨fun i m1 w => ∃ k : Nat, k ≤ n1 ∧ i = (k : Int) ∧ w = n1 - k ∧ Keep m m1 ∧ ys.take k = zs.take k, ⟨n1, 0, Nat.zero_le _, rfl, rfl, Keep.refl hw, rfl⟩, ?_⟩
    rintro i m1 w ⟨k, hk, rfl, rfl, k1, heq⟩
    rw [splitB_iff]
    refine ⟨fun e => ?_, fun e => ?_⟩
    · rw [ltI_true] at e
      have hkn : k < n1 := by unfold lenI at e; omega
      rw [mBind_iff]
      generalize hm2 : bump m1 9 = m2
      have k2 : Keep m m2 := hm2 ▸ k1.bump
      obtain ⟨y, hy⟩ : ∃ y, ys[k]? = some y := ⟨_, List.getElem?_eq_getElem (by rw [l1]; exact hkn)⟩
      obtain ⟨z, hz⟩ : ∃ z, zs[k]? = some z := ⟨_, List.getElem?_eq_getElem (by rw [l2]; exact hkn)⟩
      obtain ⟨b, o, rfl, h0⟩ := (SlIs.keep h1 hw k2).2 k (.int .i64 y) (by rw [List.getElem?_map, hy]; rfl)
      obtain ⟨b', o', rfl, h0'⟩ := (SlIs.keep h2 hw k2).2 k (.int .i64 z) (by rw [List.getElem?_map, hz]; rfl)
      refine ⟨⟨by omega, by omega⟩, ?_⟩
      rw [vPtr_some]
      refine ⟨y, by rw [Int.toNat_natCast, Nat.mul_one]; exact h0, ⟨by omega, by omega⟩, ?_⟩
      rw [vPtr_some]
      refine ⟨z, by rw [Int.toNat_natCast, Nat.mul_one]; exact h0', ?_⟩
      rw [splitB_iff]
      refine ⟨fun e2 => ?_, fun e2 => ⟨n1 - (k + 1), less_w hkn, k + 1, hkn, inc64 (by omega), rfl, k2, ?_⟩⟩
      · rw [neI_true] at e2
        have := h m2 k2
        rw [decide_eq_false (fun q => e2 (by rw [q, hz] at hy; cases hy; rfl))] at this
        exact this
      · rw [neI_false] at e2
        rw [List.take_add_one, List.take_add_one, hy, hz, heq, e2]
    · rw [ltI_false] at e
      have : k = n1 := by unfold lenI at e; omega
      subst this
      rw [List.take_of_length_le (by omega), List.take_of_length_le (by omega)] at heq
      have := h m1 k1
      rw [decide_eq_true heq] at this
      exact this

/-! ## one more entry behind a copy -/

/-- a copy: nil, nothing in a block of its own, or a slice of one's own -/
def Cl (m0 m : Mem) (a : Option Addr) (n c : Nat) (l : List pl.E) : Prop :=
  (n = 0 ∧ l = [] ∧ c = 0 ∧ (a = none ∨ ∃ b cc k e, a = some ⟨b, 0, none⟩ ∧ m0.nx ≤ b ∧ m.hp.get b = some (.cells cc k e false))) ∨ (0 < n ∧ OwnE m0 m a n c l)

theorem push_ents {m0 m : Mem} {a : Option Addr} {n c t : Nat} {l : List pl.E} {x : pl.E} (k : Keep m0 m) (hcl : Cl m0 m a n c l) (ht : Row m t (encE x) 29 false) (hn : n ≤ 1000000) :
    ∃ m4, appendA cx m [22, 22] [.slice a n c, .slice (some ⟨t, 0, none⟩) 1 1] = some (.slice (some ⟨m.nx, 0, none⟩) (n + 1) (n + 1), m4) ∧ Keep m0 m4 ∧ OwnE m0 m4 (some ⟨m.nx, 0, none⟩) (n + 1) (n + 1) (l ++ [x]) := by
  have hrow : firstL m 3 1 (.slice (some ⟨t, 0, none⟩) 1 1) = some (encE x) := ht.rowAt (o := 0) (k := 3) (by show 0 + 3 ≤ 3; omega)
  have hw := k.wf
  have hnx := k.nx
  have hwf := hw.1
  have fin : ∀ m4, m4.nx = m.nx + 1 → m4.fl = m.fl → Row m4 m.nx ((l ++ [x]).flatMap encE) 29 true → l.length = n → (∀ b', b' ≠ m.nx → (∀ b, a = some ⟨b, 0, none⟩ → b' ≠ b) → m4.hp.get b' = m.hp.get b') → (∀ b, a = some ⟨b, 0, none⟩ → m0.nx ≤ b ∧ b < m.nx) → Keep m0 m4 ∧ OwnE m0 m4 (some ⟨m.nx, 0, none⟩) (n + 1) (n + 1) (l ++ [x]) := by
    intro m4 nx4 fl4 hR hl g4 hb
    refine ⟨⟨⟨by omega, fun b hb' => ?_⟩, by omega, by rw [fl4]; exact k.fl, fun b hb' => ?_⟩, ⟨by rw [flat_len, List.length_append, hl]; rfl, .inr ⟨m.nx, rfl, rfl, by omega, hR⟩⟩, fun b e => by cases e; exact hnx⟩
    · rw [g4 b (by omega) (fun b' e e' => by have := hb b' e; omega)]
      exact hw.2 b (by omega)
    · rw [g4 b (by omega) (fun b' e e' => by have := hb b' e; omega)]
      exact k.get b hb'
  have grown : ∀ (hG : Grow m a n c 3 29 (l.flatMap encE)), (∀ b, a = some ⟨b, 0, none⟩ → m0.nx ≤ b) → ∃ m4, appendA cx m [22, 22] [.slice a n c, .slice (some ⟨t, 0, none⟩) 1 1] = some (.slice (some ⟨m.nx, 0, none⟩) (n + 1) (n + 1), m4) ∧ Keep m0 m4 ∧ OwnE m0 m4 (some ⟨m.nx, 0, none⟩) (n + 1) (n + 1) (l ++ [x]) := by
    intro hG hb
    obtain ⟨m4, e4, nx4, fl4, hR4, g4⟩ := append_grow (x := .slice (some ⟨t, 0, none⟩) 1 1) hG un22 un22 rfl ty29 ti29s z29 rfl (by omega) (k := 1) rfl hrow rfl rfl (by omega) (by rw [ti29b]; omega) (by omega)
    refine ⟨m4, e4, fin m4 nx4 fl4 ?_ ?_ g4 ?_⟩
    · rw [List.flatMap_append, flat_one]; exact hR4
    · have := hG.1; rw [flat_len] at this; omega
    · intro b e
      refine ⟨hb b e, ?_⟩
      rcases hG.2 with ⟨h1, _⟩ | ⟨b', h1, _, _, h2⟩
      · rw [e] at h1; cases h1
      · rw [e] at h1; cases h1; exact hw.row h2
  rcases hcl with ⟨rfl, rfl, rfl, ha⟩ | ⟨_, hG, hb⟩
  · rcases ha with rfl | ⟨b, cc, kk, e, rfl, hb, hg⟩
    · exact grown (Grow.nil _ _ _) (fun b e => by cases e)
    · have hap := append_empty (x := .slice (some ⟨t, 0, none⟩) 1 1) hg (n := 1) rfl hrow rfl rfl (by omega) (by omega)
      refine ⟨_, hap, fin _ rfl rfl ?_ rfl ?_ ?_⟩
      · rw [List.nil_append, flat_one]; exact Row.newO
      · intro b' h1 h2; rw [newO_get, if_neg h1]
      · rintro b' e; cases e; exact ⟨hb, hw.lt hg⟩
  · exact grown hG hb

theorem OwnE.ents {m0 m : Mem} {a : Option Addr} {n c : Nat} {l : List pl.E} (h : OwnE m0 m a n c l) : EntsIs m a n l := by
  obtain ⟨⟨h1, h2⟩, _⟩ := h
  have hl : l.length = n := by rw [flat_len] at h1; omega
  rcases h2 with ⟨rfl, rfl, rfl⟩ | ⟨b, rfl, rfl, _, hR⟩
  · rw [List.length_eq_zero_iff.1 hl]; exact EntsIs.nil _ _
  · have := EntsIs.ofRow (o := 0) (l' := l) hR rfl hl (fun i _ => by rw [Nat.zero_add])
    rw [Nat.zero_mul] at this; exact this

theorem clone_cl {m : Mem} {a : Option Addr} {n c : Nat} {l : List pl.E} {Q : Value → Mem → Prop} (hw : Wf m) (hl : EntsIs m a n l) (hn : n ≤ 1000000)
    (h : ∀ m' a' c', Keep m m' → Cl m m' a' n c' l → Q (.slice a' n c') m') : CallW cx 28 [.slice a n c] m Q := by
  refine clone_ok hw hl hn (fun m' a' c' h0 k ha => ?_) (fun m' a' c' hpos k ha => h m' a' c' k (.inr ⟨hpos, ha⟩))
  subst h0
  refine h m' a' c' k (.inl ⟨rfl, List.length_eq_zero_iff.1 hl.1, ?_, ?_⟩)
  · rcases ha with ⟨_, h2⟩ | ⟨b, cc, kk, e, _, h2, _⟩ <;> exact h2
  · rcases ha with ⟨h1, _⟩ | ⟨b, cc, kk, e, h1, _, h3, h4⟩
    · exact .inl h1
    · exact .inr ⟨b, cc, kk, e, h1, h3, h4⟩

/-! ## Beats -/

theorem pick_small {mm : Int} {l : List pl.E} : (pl.pick mm l).length ≤ 64 := by
  by_cases g : pl.Good mm l
  · rw [pl.pick_length g]; have := g.len; omega
  · have : pl.pick mm l = [] := by unfold pl.pick; rw [pl.run_bad g]; exact List.mergeSort_nil
    rw [this]; simp

theorem sl_small {m : Mem} {a : Option Addr} {n : Nat} {mm : Int} {l : List pl.E} (h : SlIs m a n ((pl.pick mm l).map (Value.int .i64))) : n = (pl.pick mm l).length ∧ n ≤ 64 := by
  have h1 := h.1
  rw [List.length_map] at h1
  have := pick_small (mm := mm) (l := l)
  omega

theorem beats_ok {mm : Int} {m : Mem} {a : Option Addr} {n c : Nat} {l : List pl.E} {x : pl.E} {Q : Value → Mem → Prop} (hw : Wf m) (hl : EntsIs m a n l) (hn : n ≤ 1000)
    (h : ∀ m', Keep m m' → Q (.tuple #[.int .i64 (pl.beats mm l x).1, .bool (pl.beats mm l x).2]) m') : CallW cx 16 [.int .i64 mm, .slice a n c, .agg (encE x).toArray] m Q := by
  obtain ⟨x0, x1, xb⟩ := x
  apply F16_ok; unfold F16
  rw [mBind_iff]
  generalize hm1 : newO m _ = m1
  have k1 : Keep m m1 := hm1 ▸ (Keep.refl hw).newO
  have n1 : m1.nx = m.nx + 1 := by rw [← hm1]; rfl
  have r1 : Row m1 m.nx [.int .i64 x0, .int .i64 x1, .bool xb] 29 false := hm1 ▸ Row.newO
  rw [mBind_iff]
  generalize hm2 : bump m1 8 = m2
  have k2 : Keep m m2 := hm2 ▸ k1.bump
  have k12 : Keep m1 m2 := hm2 ▸ (Keep.refl k1.wf).bump
  have n2 : m2.nx = m1.nx + 8 := by rw [← hm2]; rfl
  have r2 : Row m2 m.nx [.int .i64 x0, .int .i64 x1, .bool xb] 29 false := hm2 ▸ r1.bump
  have hwf : Wf (setFl m2 m1.nx) := Wf.setFl k2.wf (by omega)
  refine clone_cl hwf (l := l) (show EntsIs m2 a n l from hl.keep hw k2) (by omega) fun m3 a3 c3 k3 hcl => ⟨_, _, _, rfl, ?_⟩
  have k3' : Keep m2 (setFl m3 m2.fl) := Keep.unset k2.wf k3
  refine ⟨x0, by rw [r2.rd]; rfl, x1, by rw [r2.rd]; rfl, xb, by rw [r2.rd]; rfl, ?_⟩
  generalize hm4 : addO (setFl m3 m2.fl) (m1.nx + 4) _ = m4
  have hn3 : m2.nx ≤ m3.nx := k3.nx
  have k4 : Keep m1 m4 := hm4 ▸ (k12.trans k3').addO (by omega) (by simp; omega)
  have r4 : Row m4 (m1.nx + 4) (encE (x0, x1, xb)) 29 false := Row.of_row (by rw [← hm4, addO_get, if_pos rfl]; rfl)
  have g4 : ∀ b, m2.nx ≤ b → m4.hp.get b = m3.hp.get b := fun b hb => by rw [← hm4, addO_get, if_neg (by omega)]; rfl
  have hcl4 : Cl m1 m4 a3 n c3 l := by
    rcases hcl with ⟨h1, h2, h3, h4⟩ | ⟨hp, ⟨hG1, hG2⟩, hb⟩
    · refine .inl ⟨h1, h2, h3, ?_⟩
      rcases h4 with h4 | ⟨b, cc, kk, e, h4, h5, h6⟩
      · exact .inl h4
      · have h5' : m2.nx ≤ b := h5
        exact .inr ⟨b, cc, kk, e, h4, by omega, by rw [g4 b h5']; exact h6⟩
    · have hb' : ∀ b, a3 = some ⟨b, 0, none⟩ → m2.nx ≤ b := hb
      refine .inr ⟨hp, ⟨hG1, ?_⟩, fun b e => by have := hb' b e; omega⟩
      rcases hG2 with h1 | ⟨b, h1, h2, h3, h4⟩
      · exact .inl h1
      · have h5 := hb' b h1
        have hf := k4.fl
        have hf2 := k1.wf.1
        exact .inr ⟨b, h1, h2, by omega, h4.congr (g4 b h5)⟩
  obtain ⟨m5, e5, k5, hO⟩ := push_ents k4 hcl4 r4 (by omega)
  refine ⟨_, _, _, m5, e5, ?_⟩
  have k5m : Keep m m5 := k1.trans k5
  have r5 : Row m5 m.nx [.int .i64 x0, .int .i64 x1, .bool xb] 29 false := r1.congr (k5.get _ (by omega))
  refine pick_ok k5m.wf hO.ents fun m6 a6 n6 c6 k6 hp6 => ⟨_, _, _, rfl, ?_⟩
  rw [mBind_iff]
  have k6m := k5m.trans k6
  have r6 : Row m6 m.nx [.int .i64 x0, .int .i64 x1, .bool xb] 29 false := k6.row k5m.wf r5
  refine ⟨x0, by rw [r6.rd]; rfl, ?_⟩
  obtain ⟨hl6, hs6⟩ := sl_small hp6
  refine contains_ok hp6 (by omega) ⟨_, rfl, ?_⟩
  rw [splitB_iff]
  refine ⟨fun e => ?_, fun e => ?_⟩
  · have hno : x0 ∉ pl.pick mm (l ++ [(x0, x1, xb)]) := by simpa using e
    have := h m6 k6m
    unfold pl.beats at this
    rw [if_neg hno] at this
    exact this
  · have hin : x0 ∈ pl.pick mm (l ++ [(x0, x1, xb)]) := by simpa using e
    refine pick_ok k6m.wf (hl.keep hw k6m) fun m7 a7 n7 c7 k7 hp7 => ⟨_, _, _, rfl, ?_⟩
    obtain ⟨hl7, hs7⟩ := sl_small hp7
    have k7m := k6m.trans k7
    refine ⟨fun i m8 w => ∃ k : Nat, k ≤ n7 ∧ i = (k : Int) ∧ w = n7 - k ∧ m8 = m7 ∧ ∀ j ∈ (pl.pick mm l).take k, j ∈ pl.pick mm (l ++ [(x0, x1, xb)]), ⟨n7, 0, Nat.zero_le _, rfl, rfl, rfl, by simp⟩, ?_⟩
    rintro i m8 w ⟨k, hk, rfl, rfl, rfl, hall⟩
    have hbe : pl.beats mm l (x0, x1, xb) = (match (pl.pick mm l).find? fun i => decide (i ∉ pl.pick mm (l ++ [(x0, x1, xb)])) with | some i => (i, true) | none => (-1, true)) := by
      unfold pl.beats; rw [if_pos hin]; rfl
    rw [splitB_iff]
    refine ⟨fun e => ?_, fun e => ?_⟩
    · rw [ltI_true] at e
      have hkn : k < n7 := by unfold lenI at e; omega
      obtain ⟨y, hy⟩ : ∃ y, (pl.pick mm l)[k]? = some y := ⟨_, List.getElem?_eq_getElem (by omega)⟩
      obtain ⟨b, o, rfl, h0⟩ := hp7.2 k (.int .i64 y) (by rw [List.getElem?_map, hy]; rfl)
      refine ⟨⟨by omega, by omega⟩, ?_⟩
      rw [vPtr_some]
      refine ⟨y, by rw [Int.toNat_natCast, Nat.mul_one]; exact h0, ?_⟩
      refine contains_ok (SlIs.keep hp6 k6m.wf k7) (by omega) ⟨_, rfl, ?_⟩
      rw [splitB_iff]
      refine ⟨fun e2 => ?_, fun e2 => ⟨n7 - (k + 1), less_w hkn, k + 1, hkn, inc64 (by omega), rfl, rfl, ?_⟩⟩
      · have hno : y ∉ pl.pick mm (l ++ [(x0, x1, xb)]) := by simpa using e2
        have hf : (pl.pick mm l).find? (fun i => decide (i ∉ pl.pick mm (l ++ [(x0, x1, xb)]))) = some y := by
          rw [← List.take_append_drop k (pl.pick mm l), List.find?_append]
          have h9 : ((pl.pick mm l).take k).find? (fun i => decide (i ∉ pl.pick mm (l ++ [(x0, x1, xb)]))) = none := by
            rw [List.find?_eq_none]
            intro j hj
            simp [hall j hj]
          have h10 : (pl.pick mm l).drop k = y :: (pl.pick mm l).drop (k + 1) := by
            have hkl : k < (pl.pick mm l).length := by omega
            rw [List.drop_eq_getElem_cons hkl]
            rw [List.getElem?_eq_getElem hkl] at hy
            cases hy; rfl
          rw [h9, h10, List.find?_cons]
          simp [hno]
        have := h _ k7m
        rw [hbe, hf] at this
        exact this
      · have hyin : y ∈ pl.pick mm (l ++ [(x0, x1, xb)]) := by simpa using e2
        rw [List.take_add_one, hy]
        intro j hj
        simp only [Option.toList_some, List.mem_append, List.mem_singleton] at hj
        rcases hj with q | q
        · exact hall j q
        · rw [q]; exact hyin
    · rw [ltI_false] at e
      have : k = n7 := by unfold lenI at e; omega
      subst this
      rw [List.take_of_length_le (by omega)] at hall
      have hf : (pl.pick mm l).find? (fun i => decide (i ∉ pl.pick mm (l ++ [(x0, x1, xb)]))) = none := by
        rw [List.find?_eq_none]
        intro j hj
        simp [hall j hj]
      have := h _ k7m
      rw [hbe, hf] at this
      exact this

end Go.Proofs.Ytmjpkannhbaklaa.vc
