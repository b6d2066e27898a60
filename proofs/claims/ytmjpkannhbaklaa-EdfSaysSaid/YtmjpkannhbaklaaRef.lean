/-
  Chapter 15's reference: what its functions return.
-/
import Derived.Test.YtmjpkannhbaklaaLaw
import Derived.Test.YtmjpkannhbaklaaVcRef
import Derived.Test.YtmjpkannhbaklaaRefPlain
namespace Go.Proofs.Ytmjpkannhbaklaa.vc
open Go Go.AX
set_option linter.unusedVariables false

theorem joinK_of {α : Type} {j : α} {f : α → Prop} (P : α → Prop) (hj : P j) (h : ∀ J, P J → f J) : joinK j f := h j hj

theorem un39 : cx.un.get 39 = some (.slice 41) := by kernel_rfl
noncomputable def ti41 : TypeInfo := match cx.ty.get 41 with | some i => i | none => default
theorem ty41 : cx.ty.get 41 = some ti41 := by kernel_rfl
theorem ti41s : ti41.size = 3 := by kernel_rfl
theorem ti41b : ti41.bytes = 24 := by kernel_rfl
theorem z41 : zeroT cx 41 = some (.agg #[.int .i64 0, .int .i64 0, .bool false]) := by kernel_rfl

/-- an append to a block of one's own that holds nothing -/
theorem append_emptyR {m : Mem} {b n : Nat} {c : Tr Value} {k : Nat} {e0 : TypeId} {x : Value} {new : List Value} (hb : m.hp.get b = some (.cells c k e0 false)) (hx : lenV x = some n) (hf : firstL m 3 n x = some new) (hn : new.length = n * 3) (ho : new.all one1 = true) (hle : n ≤ 1000000) (hpos : 0 < n) :
    appendA cx m [39, 39] [.slice (some ⟨b, 0, none⟩) 0 0, x] = some (.slice (some ⟨m.nx, 0, none⟩) n n, newO m (row new 41 true)) := by
  unfold appendA
  simp only [un39, ty41, hx, isRowD]
  rw [ti41s, ti41b]
  simp only [hf]
  have e1 : (Nat.beq new.length (n * 3) && Nat.blt 0 3 && new.all one1) = true := by
    rw [hn, ho, show Nat.beq (n * 3) (n * 3) = true from Nat.beq_refl _]; rfl
  have e2 : (Nat.ble ((2 * (0 + n) + 192) * 24) 140737488355328 && Nat.ble (0 + n) 1099511627776) = true := by
    rw [Nat.ble_eq_true_of_le (by omega), Nat.ble_eq_true_of_le (by omega)]; rfl
  have e3 : Nat.ble (0 + n) 0 = false := by
    cases h : Nat.ble (0 + n) 0 with
    | false => rfl
    | true => have := Nat.le_of_ble_eq_true h; omega
  have e4 : rowAtL m ⟨b, 0, none⟩ (0 * 3) = some [] := by
    unfold rowAtL
    simp only [hb]
    rfl
  have e5 : giveUp m (some ⟨b, 0, none⟩) 41 3 0 = some m := by
    unfold giveUp
    simp only [hb]
  simp only [e1, e2, e3, firstL, e4, z41, e5]
  simp only [Nat.zero_add, List.nil_append]
  rfl

/-- a slice of one's own that holds entries -/
def OwnR (m0 m : Mem) (a : Option Addr) (n c : Nat) (l : List pl.E) : Prop := Grow m a n c 3 41 (l.flatMap encE) ∧ ∀ b, a = some ⟨b, 0, none⟩ → m0.nx ≤ b

/-- a copy: nil, nothing in a block of its own, or a slice of one's own -/
def ClR (m0 m : Mem) (a : Option Addr) (n c : Nat) (l : List pl.E) : Prop :=
  (n = 0 ∧ l = [] ∧ c = 0 ∧ (a = none ∨ ∃ b cc k e, a = some ⟨b, 0, none⟩ ∧ m0.nx ≤ b ∧ m.hp.get b = some (.cells cc k e false))) ∨ (0 < n ∧ OwnR m0 m a n c l)

theorem push_entsR {m0 m : Mem} {a : Option Addr} {n c t : Nat} {l : List pl.E} {x : pl.E} (k : Keep m0 m) (hcl : ClR m0 m a n c l) (ht : Row m t (encE x) 41 false) (hn : n ≤ 1000000) :
    ∃ m4, appendA cx m [39, 39] [.slice a n c, .slice (some ⟨t, 0, none⟩) 1 1] = some (.slice (some ⟨m.nx, 0, none⟩) (n + 1) (n + 1), m4) ∧ Keep m0 m4 ∧ OwnR m0 m4 (some ⟨m.nx, 0, none⟩) (n + 1) (n + 1) (l ++ [x]) := by
  have hrow : firstL m 3 1 (.slice (some ⟨t, 0, none⟩) 1 1) = some (encE x) := ht.rowAt (o := 0) (k := 3) (by show 0 + 3 ≤ 3; omega)
  have hw := k.wf
  have hnx := k.nx
  have hwf := hw.1
  have fin : ∀ m4, m4.nx = m.nx + 1 → m4.fl = m.fl → Row m4 m.nx ((l ++ [x]).flatMap encE) 41 true → l.length = n → (∀ b', b' ≠ m.nx → (∀ b, a = some ⟨b, 0, none⟩ → b' ≠ b) → m4.hp.get b' = m.hp.get b') → (∀ b, a = some ⟨b, 0, none⟩ → m0.nx ≤ b ∧ b < m.nx) → Keep m0 m4 ∧ OwnR m0 m4 (some ⟨m.nx, 0, none⟩) (n + 1) (n + 1) (l ++ [x]) := by
    intro m4 nx4 fl4 hR hl g4 hb
    refine ⟨⟨⟨by omega, fun b hb' => ?_⟩, by omega, by rw [fl4]; exact k.fl, fun b hb' => ?_⟩, ⟨by rw [flat_len, List.length_append, hl]; rfl, .inr ⟨m.nx, rfl, rfl, by omega, hR⟩⟩, fun b e => by cases e; exact hnx⟩
    · rw [g4 b (by omega) (fun b' e e' => by have := hb b' e; omega)]
      exact hw.2 b (by omega)
    · rw [g4 b (by omega) (fun b' e e' => by have := hb b' e; omega)]
      exact k.get b hb'
  have grown : ∀ (hG : Grow m a n c 3 41 (l.flatMap encE)), (∀ b, a = some ⟨b, 0, none⟩ → m0.nx ≤ b) → ∃ m4, appendA cx m [39, 39] [.slice a n c, .slice (some ⟨t, 0, none⟩) 1 1] = some (.slice (some ⟨m.nx, 0, none⟩) (n + 1) (n + 1), m4) ∧ Keep m0 m4 ∧ OwnR m0 m4 (some ⟨m.nx, 0, none⟩) (n + 1) (n + 1) (l ++ [x]) := by
    intro hG hb
    obtain ⟨m4, e4, nx4, fl4, hR4, g4⟩ := append_grow (x := .slice (some ⟨t, 0, none⟩) 1 1) hG un39 un39 rfl ty41 ti41s z41 rfl (by omega) (k := 1) rfl hrow rfl rfl (by omega) (by rw [ti41b]; omega) (by omega)
    refine ⟨m4, e4, fin m4 nx4 fl4 ?_ ?_ g4 ?_⟩
    · rw [List.flatMap_append, flat_one]; exact hR4
    · have := hG.1; rw [flat_len] at this; omega
    · intro b e
      refine ⟨hb b e, ?_⟩
      rcases hG.2 with ⟨h1, _⟩ | ⟨b', h1, _, _, h2⟩
      · rw [e] at h1; cases h1
      · rw [e] at h1; cases h1; exact hw.row h2
  rcases hcl with ⟨rfl, rfl, rfl, ha⟩ | ⟨_, hG, hb⟩
  · rcases ha with rfl | ⟨b, cc, kk, e, rfl, hb, hg⟩
    · exact grown (Grow.nil _ _ _) (fun b e => by cases e)
    · have hap := append_emptyR (x := .slice (some ⟨t, 0, none⟩) 1 1) hg (n := 1) rfl hrow rfl rfl (by omega) (by omega)
      refine ⟨_, hap, fin _ rfl rfl ?_ rfl ?_ ?_⟩
      · rw [List.nil_append, flat_one]; exact Row.newO
      · intro b' h1 h2; rw [newO_get, if_neg h1]
      · rintro b' e; cases e; exact ⟨hb, hw.lt hg⟩
  · exact grown hG hb

theorem OwnR.ents {m0 m : Mem} {a : Option Addr} {n c : Nat} {l : List pl.E} (h : OwnR m0 m a n c l) : EntsIs m a n l := by
  obtain ⟨⟨h1, h2⟩, _⟩ := h
  have hl : l.length = n := by rw [flat_len] at h1; omega
  rcases h2 with ⟨rfl, rfl, rfl⟩ | ⟨b, rfl, rfl, _, hR⟩
  · rw [List.length_eq_zero_iff.1 hl]; exact EntsIs.nil _ _
  · have := EntsIs.ofRow (o := 0) (l' := l) hR rfl hl (fun i _ => by rw [Nat.zero_add])
    rw [Nat.zero_mul] at this; exact this

/-- entries appended to an empty slice of one's own -/
theorem append_clR {m : Mem} {b n c : Nat} {a : Option Addr} {l : List pl.E} {cc : Tr Value} {k : Nat} {e : TypeId} (hw : Wf m) (hb : m.hp.get b = some (.cells cc k e false)) (hl : EntsIs m a n l) (hn : n ≤ 1000000) :
    ∃ a' c' m', appendA cx m [39, 39] [.slice (some ⟨b, 0, none⟩) 0 0, .slice a n c] = some (.slice a' n c', m') ∧ Keep m m' ∧ ((n = 0 ∧ m' = m ∧ a' = some ⟨b, 0, none⟩ ∧ c' = 0) ∨ (0 < n ∧ OwnR m m' a' n c' l)) := by
  by_cases h0 : n = 0
  · subst h0
    refine ⟨_, _, m, ?_, Keep.refl hw, .inl ⟨rfl, rfl, rfl, rfl⟩⟩
    unfold appendA
    simp only [un39, ty41, lenV, isRowD]
    rw [ti41s]
    cases a <;> (simp only [firstL]; rfl)
  · obtain ⟨b', o, rfl, hrow⟩ := hl.cells (by omega)
    have hap := append_emptyR (x := .slice (some ⟨b', o, none⟩) n c) hb rfl ((firstL_pos (by omega)).trans hrow) (by rw [flat_len, hl.1]) (encE_one l) hn (by omega)
    refine ⟨_, _, _, hap, (Keep.refl hw).newO, .inr ⟨by omega, ⟨by rw [flat_len, hl.1], .inr ⟨m.nx, rfl, rfl, hw.1, Row.newO⟩⟩, ?_⟩⟩
    rintro b' e; cases e; exact Nat.le_refl _

/-! ## ent, EntLess, ents -/

theorem ent_ok {x : pl.E} {m : Mem} {Q : Value → Mem → Prop} (hw : Wf m) (h : ∀ m', Keep m m' → Q (.agg (encE x).toArray) m') : CallW cx 21 [.agg (encE x).toArray] m Q := by
  obtain ⟨x0, x1, xb⟩ := x
  apply F21_ok; unfold F21
  rw [mBind_iff]
  generalize hm1 : newO m _ = m1
  have k1 : Keep m m1 := hm1 ▸ (Keep.refl hw).newO
  have n1 : m1.nx = m.nx + 1 := by rw [← hm1]; rfl
  have r1 : Row m1 m.nx [.int .i64 x0, .int .i64 x1, .bool xb] 29 false := hm1 ▸ Row.newO
  rw [mBind_iff]
  generalize hm2 : newO m1 _ = m2
  have k2 : Keep m m2 := hm2 ▸ k1.newO
  have r1' : Row m2 m.nx [.int .i64 x0, .int .i64 x1, .bool xb] 29 false := hm2 ▸ r1.old (by omega)
  have r2 : Row m2 m1.nx [.int .i64 0, .int .i64 0, .bool false] 41 false := hm2 ▸ Row.newO
  refine ⟨x0, by rw [r1'.rd]; rfl, x1, by rw [r1'.rd]; rfl, xb, by rw [r1'.rd]; rfl, r2.okW (by have := k2.fl; have := hw.1; omega) (by simp), ?_⟩
  rw [mBind_iff]
  generalize hm3 : wr m2 m1.nx 0 _ = m3
  have k3 : Keep m m3 := hm3 ▸ k2.wr (by omega)
  have r3 : Row m3 m1.nx [.int .i64 x0, .int .i64 x1, .bool xb] 41 false := by
    have := r2.wr (o := 0) (vs := [.int .i64 x0, .int .i64 x1, .bool xb]) (by simp)
    rw [hm3] at this; exact this
  refine ⟨x0, by rw [r3.rd]; rfl, x1, by rw [r3.rd]; rfl, xb, by rw [r3.rd]; rfl, h _ k3⟩

theorem refLess_ok {x y : pl.E} {m : Mem} {Q : Value → Mem → Prop} (hw : Wf m) (h : ∀ m', Keep m m' → Q (.bool (pl.less x y)) m') : CallW cx 22 [.agg (encE x).toArray, .agg (encE y).toArray] m Q := by
  obtain ⟨x0, x1, xb⟩ := x
  obtain ⟨y0, y1, yb⟩ := y
  apply F22_ok; unfold F22
  rw [mBind_iff]
  generalize hm1 : newO m _ = m1
  have k1 : Keep m m1 := hm1 ▸ (Keep.refl hw).newO
  have n1 : m1.nx = m.nx + 1 := by rw [← hm1]; rfl
  have r1 : Row m1 m.nx [.int .i64 x0, .int .i64 x1, .bool xb] 41 false := hm1 ▸ Row.newO
  rw [mBind_iff]
  generalize hm2 : newO m1 _ = m2
  have k2 : Keep m m2 := hm2 ▸ k1.newO
  have r1' : Row m2 m.nx [.int .i64 x0, .int .i64 x1, .bool xb] 41 false := hm2 ▸ r1.old (by omega)
  have r2 : Row m2 m1.nx [.int .i64 y0, .int .i64 y1, .bool yb] 41 false := hm2 ▸ Row.newO
  have hh := h m2 k2
  have hl : pl.less (x0, x1, xb) (y0, y1, yb) = true ↔ x1 < y1 ∨ (x1 = y1 ∧ x0 < y0) := pl.less_iff
  refine ⟨x1, by rw [r1'.rd]; rfl, y1, by rw [r2.rd]; rfl, ?_⟩
  rw [splitB_iff]
  refine ⟨fun e => ⟨x1, by rw [r1'.rd]; rfl, y1, by rw [r2.rd]; rfl, ?_⟩, fun e => ⟨x0, by rw [r1'.rd]; rfl, y0, by rw [r2.rd]; rfl, ?_⟩⟩
  · rw [neI_true] at e
    have : ltI x1 y1 = pl.less (x0, x1, xb) (y0, y1, yb) := by rw [Bool.eq_iff_iff, ltI_true, hl]; omega
    rw [this]; exact hh
  · rw [neI_false] at e
    have : ltI x0 y0 = pl.less (x0, x1, xb) (y0, y1, yb) := by rw [Bool.eq_iff_iff, ltI_true, hl]; omega
    rw [this]; exact hh

theorem ents_ok {m : Mem} {a : Option Addr} {n c : Nat} {l : List pl.E} {Q : Value → Mem → Prop} (hw : Wf m) (hl : EntsIs m a n l) (hn : n ≤ 1000)
    (h : ∀ m' a' c', Keep m m' → EntsIs m' a' n l → Q (.slice a' n c') m') : CallW cx 17 [.slice a n c] m Q := by
  have hlen := hl.1
  apply F17_ok; unfold F17
  refine ⟨fun a3 n3 c3 i m1 w => ∃ k : Nat, k ≤ n ∧ i = (k : Int) ∧ w = n - k ∧ n3 = k ∧ Keep m m1 ∧ ClR m m1 a3 k c3 (l.take k), ⟨n, 0, Nat.zero_le _, rfl, rfl, rfl, Keep.refl hw, .inl ⟨rfl, rfl, rfl, .inl rfl⟩⟩, ?_⟩
  rintro a3 n3 c3 i m1 w ⟨k, hk, rfl, rfl, rfl, k1, hcl⟩
  rw [splitB_iff]
  refine ⟨fun e => ?_, fun e => ?_⟩
  · rw [ltI_true] at e
    have hkn : n3 < n := by unfold lenI at e; omega
    obtain ⟨x, hx⟩ : ∃ x, l[n3]? = some x := ⟨_, List.getElem?_eq_getElem (by omega)⟩
    obtain ⟨b, o, rfl, h0, h1, h2⟩ := (hl.keep hw k1).2 _ _ hx
    refine ⟨⟨by omega, by omega⟩, ?_⟩
    rw [vPtr_some]
    refine ⟨x.1, by rw [Int.toNat_natCast]; exact h0, x.2.1, by rw [Int.toNat_natCast]; exact h1, x.2.2, by rw [Int.toNat_natCast]; exact h2, ?_⟩
    refine ent_ok (x := x) k1.wf fun m2 k2 => ⟨_, _, _, rfl, ?_⟩
    rw [mBind_iff]
    generalize hm3 : newO m2 _ = m3
    have k12 := k1.trans k2
    have k3 : Keep m m3 := hm3 ▸ k12.newO
    have k13 : Keep m1 m3 := hm3 ▸ k2.newO
    have r3 : Row m3 m2.nx (encE x) 41 false := hm3 ▸ Row.newO
    have hcl3 : ClR m m3 a3 n3 c3 (l.take n3) := by
      rcases hcl with ⟨h1, h2, h3, h4⟩ | ⟨hp, hG, hb⟩
      · refine .inl ⟨h1, h2, h3, ?_⟩
        rcases h4 with h4 | ⟨b, cc, kk, e, h4, h5, h6⟩
        · exact .inl h4
        · exact .inr ⟨b, cc, kk, e, h4, h5, by rw [k13.get _ (k1.wf.lt h6)]; exact h6⟩
      · exact .inr ⟨hp, k13.grow k1.wf hG, hb⟩
    obtain ⟨m5, e5, k5, hO5⟩ := push_entsR (x := x) k3 hcl3 r3 (by omega)
    refine ⟨_, _, _, m5, e5, n - (n3 + 1), less_w hkn, n3 + 1, hkn, inc64 (by omega), rfl, rfl, k5, .inr ⟨by omega, ?_⟩⟩
    rw [take_snoc hx]; exact hO5
  · rw [ltI_false] at e
    have hke : n3 = n := by unfold lenI at e; omega
    subst hke
    rw [List.take_of_length_le (by omega)] at hcl
    refine h m1 _ _ k1 ?_
    rcases hcl with ⟨h1, h2, _⟩ | ⟨_, hO⟩
    · rw [h1, h2]; exact EntsIs.nil _ _
    · exact hO.ents

/-! ## GoodEnts -/

theorem refGood_ok {c : Nat} {mm : Int} {a : Option Addr} {n : Nat} {l : List pl.E} {m : Mem} {Q : Value → Mem → Prop} (hw : Wf m) (hl : EntsIs m a n l) (hn : n ≤ 1000) (h : ∀ m', Keep m m' → Q (.bool (goodB mm l)) m') : CallW cx 23 [.int .i64 mm, .slice a n c] m Q := by
  have hlen := hl.1
  have no : ¬ pl.Good mm l → ∀ m', Keep m m' → Q (.bool false) m' := fun hn m' k => by
    have := h m' k
    rw [goodB_false hn] at this
    exact this
  apply F23_ok; unfold F23
  refine ⟨fun f i m1 w => ∃ k : Nat, k ≤ n ∧ i = (k : Int) ∧ w = n - k ∧ f = (pl.nfix (l.take k) : Int) ∧ Keep m m1 ∧ (∀ x ∈ l.take k, 0 ≤ x.1 ∧ x.1 ≤ 1023) ∧ (pl.ids (l.take k)).Nodup,
    ⟨n, 0, Nat.zero_le _, rfl, rfl, rfl, Keep.refl hw, by simp, by simp [pl.ids]⟩, ?_⟩
  rintro f i m1 w ⟨k, hk, rfl, rfl, rfl, k1, hid, hnd⟩
  rw [splitB_iff]
  refine ⟨fun e => ?_, fun e => ?_⟩
  · rw [ltI_true] at e
    have hkn : k < n := by unfold lenI at e; omega
    obtain ⟨x, hx⟩ : ∃ x, l[k]? = some x := ⟨_, List.getElem?_eq_getElem (by omega)⟩
    have hxm := List.mem_of_getElem? hx
    have rdx : ∀ {m' : Mem}, Keep m m' → ∃ b o, a = some ⟨b, o, none⟩ ∧ rd m' b (o + k * 3) = some (.int .i64 x.1) ∧ rd m' b (o + k * 3 + 2) = some (.bool x.2.2) := fun km => by
      obtain ⟨b, o, ha, h0, h1, h2⟩ := (hl.keep hw km).2 _ _ hx
      exact ⟨b, o, ha, h0, h2⟩
    refine joinK_of (fun J => ∀ m', Keep m m' → 0 ≤ x.1 → x.1 ≤ 1023 → J m') (fun m2 k2 hx0 hx1 => ?_) (fun J hJ => ?_)
    · refine joinK_of (fun J => ∀ (f' : Int) m', Keep m m' → f' = (pl.nfix (l.take (k + 1)) : Int) → J f' m') (fun f' m3 k3 hf => ?_) (fun J hJ => ?_)
      · subst hf
        refine ⟨fun q m4 w => ∃ j : Nat, j ≤ k ∧ q = (j : Int) ∧ w = k - j ∧ Keep m m4 ∧ x.1 ∉ pl.ids (l.take j), ⟨k, 0, Nat.zero_le _, rfl, rfl, k3, by simp [pl.ids]⟩, ?_⟩
        rintro q m4 w ⟨j, hj, rfl, rfl, k4, hno⟩
        rw [splitB_iff]
        refine ⟨fun e2 => ?_, fun e2 => ?_⟩
        · rw [ltI_true] at e2
          have hjk : j < k := by omega
          rw [mBind_iff]
          generalize hm5 : bump m4 11 = m5
          have k5 : Keep m m5 := hm5 ▸ k4.bump
          obtain ⟨y, hy⟩ : ∃ y, l[j]? = some y := ⟨_, List.getElem?_eq_getElem (by omega)⟩
          obtain ⟨b, o, rfl, y0, _, _⟩ := (hl.keep hw k5).2 _ _ hy
          obtain ⟨b', o', e', x0, _⟩ := rdx k5
          cases e'
          refine ⟨⟨by omega, by omega⟩, ?_⟩
          rw [vPtr_some]
          refine ⟨y.1, by rw [Int.toNat_natCast]; exact y0, ⟨by omega, by omega⟩, ?_⟩
          rw [vPtr_some]
          refine ⟨x.1, by rw [Int.toNat_natCast]; exact x0, ?_⟩
          rw [splitB_iff]
          refine ⟨fun e3 => no (fun g => ?_) m5 k5, fun e3 => ⟨k - (j + 1), less_w hjk, j + 1, hjk, inc64 (by omega), rfl, k5, ?_⟩⟩
          · rw [eqI_true] at e3
            have h1 := g.nd
            rw [← List.take_append_drop (j + 1) l, take_snoc hy, List.append_assoc] at h1
            unfold pl.ids at h1
            rw [List.map_append, List.map_append, List.nodup_append, List.nodup_append] at h1
            have hxd : x ∈ l.drop (j + 1) := by
              refine List.mem_of_getElem? (i := k - (j + 1)) ?_
              rw [List.getElem?_drop, show j + 1 + (k - (j + 1)) = k by omega]; exact hx
            exact h1.2.1.2.2 y.1 (by simp) x.1 (List.mem_map_of_mem hxd) e3
          · rw [eqI_false] at e3
            rw [take_snoc hy, ids_snoc]
            simp only [List.mem_append, List.mem_singleton]
            rintro (q | q)
            · exact hno q
            · exact e3 q.symm
        · rw [ltI_false] at e2
          have hjk : j = k := by omega
          subst hjk
          refine ⟨n - (j + 1), less_w hkn, j + 1, hkn, inc64 (by omega), rfl, rfl, k4, ?_, ?_⟩
          · rw [take_snoc hx]
            intro y hy
            rcases List.mem_append.1 hy with q | q
            · exact hid y q
            · simp at q; subst q; exact ⟨hx0, hx1⟩
          · rw [take_snoc hx, ids_snoc, List.nodup_append]
            exact ⟨hnd, by simp, fun a ha b hb => by simp at hb; subst hb; rintro rfl; exact hno ha⟩
      · obtain ⟨b, o, rfl, _, x2⟩ := rdx k2
        have hf := nfix_snoc (l.take k) x
        rw [← take_snoc hx] at hf
        have hfl : pl.nfix (l.take k) ≤ 1000000 := by
          have := nfix_le (l.take k)
          rw [List.length_take] at this
          omega
        refine ⟨⟨by omega, by omega⟩, ?_⟩
        rw [vPtr_some]
        refine ⟨x.2.2, by rw [Int.toNat_natCast]; exact x2, ?_⟩
        rw [splitB_iff]
        refine ⟨fun e2 => hJ _ _ k2 ?_, fun e2 => hJ _ _ k2 ?_⟩
        · rw [inc64 hfl, hf, if_pos e2]
        · rw [hf, if_neg (by rw [e2]; exact Bool.false_ne_true)]; simp
    · obtain ⟨b, o, rfl, x0, _⟩ := rdx k1
      refine ⟨⟨by omega, by omega⟩, ?_⟩
      rw [vPtr_some]
      refine ⟨x.1, by rw [Int.toNat_natCast]; exact x0, ?_⟩
      rw [splitB_iff]
      refine ⟨fun e2 => no (fun g => by rw [ltI_true] at e2; have := (g.id _ hxm).1; omega) m1 k1, fun e2 => ⟨⟨by omega, by omega⟩, ?_⟩⟩
      rw [vPtr_some]
      refine ⟨x.1, by rw [Int.toNat_natCast]; exact x0, ?_⟩
      rw [splitB_iff]
      refine ⟨fun e3 => no (fun g => by rw [ltI_true] at e3; have := (g.id _ hxm).2; omega) m1 k1, fun e3 => ?_⟩
      rw [ltI_false] at e2 e3
      exact hJ m1 k1 e2 e3
  · rw [ltI_false] at e
    have : k = n := by unfold lenI at e; omega
    subst this
    rw [List.take_of_length_le (by omega)] at hid hnd ⊢
    rw [splitB_iff]
    refine ⟨fun e1 => ?_, fun e1 => no (fun g => by rw [leI_false] at e1; have := g.m1; omega) m1 k1⟩
    rw [splitB_iff]
    refine ⟨fun e2 => ?_, fun e2 => no (fun g => by rw [leI_false] at e2; have := g.m2; omega) m1 k1⟩
    rw [splitB_iff]
    refine ⟨fun e3 => ?_, fun e3 => no (fun g => by rw [leI_false] at e3; unfold lenI at e3; have := g.len; omega) m1 k1⟩
    rw [leI_true] at e1 e2 e3
    have := h m1 k1
    have hg : goodB mm l = leI (pl.nfix l : Int) mm := by
      rw [Bool.eq_iff_iff, goodB_iff, leI_true]
      exact ⟨fun g => g.fx, fun g => ⟨e1, e2, by unfold lenI at e3; omega, hid, hnd, g⟩⟩
    rw [← hg]; exact this

/-- a row of bools, told by place -/
def boolsL (n : Nat) (g : Nat → Bool) : List Value := (List.range n).map fun j => .bool (g j)

theorem boolsL_length (n : Nat) (g : Nat → Bool) : (boolsL n g).length = n := by simp [boolsL]
theorem boolsL_get {n : Nat} {g : Nat → Bool} {j : Nat} (h : j < n) : (boolsL n g)[j]? = some (.bool (g j)) := by
  unfold boolsL
  rw [List.getElem?_map, List.getElem?_range h]; rfl
theorem boolsL_set {n : Nat} {g g' : Nat → Bool} {o : Nat} (h : ∀ j, j < n → g' j = if j = o then g' o else g j) : (boolsL n g).set o (.bool (g' o)) = boolsL n g' := by
  apply List.ext_getElem?
  intro j
  rw [List.getElem?_set, boolsL_length]
  by_cases hj : j < n
  · rw [boolsL_get hj, boolsL_get hj]
    by_cases e : o = j
    · subst e; rw [if_pos rfl, if_pos hj]
    · rw [if_neg e, h j hj, if_neg (fun q => e q.symm)]
  · rw [List.getElem?_eq_none (by rw [boolsL_length]; omega), List.getElem?_eq_none (by rw [boolsL_length]; omega)]
    by_cases e : o = j
    · rw [if_pos e, if_neg (by omega)]
    · rw [if_neg e]
theorem boolsL_false (n : Nat) : repL [.bool false] n = boolsL n fun _ => false := by
  apply List.ext_getElem?
  intro j
  have h : ∀ n j, (repL [.bool false] n)[j]? = if j < n then some (.bool false) else none := by
    intro n
    induction n with
    | zero => intro j; simp [repL]
    | succ n ih =>
      intro j
      cases j with
      | zero => simp [repL]
      | succ j =>
        have := ih j
        simp only [repL, List.cons_append, List.nil_append, List.getElem?_cons_succ, this]
        by_cases q : j < n
        · rw [if_pos q, if_pos (by omega)]
        · rw [if_neg q, if_neg (by omega)]
  rw [h]
  by_cases hj : j < n
  · rw [if_pos hj, boolsL_get hj]
  · rw [if_neg hj, List.getElem?_eq_none (by rw [boolsL_length]; omega)]


/-! ## ahead -/

theorem lt_less {x y : pl.E} (h : x.2.2 = y.2.2) : pl.lt x y = pl.less x y := by
  rw [Bool.eq_iff_iff, pl.lt_iff, pl.less_iff, h]
  constructor
  · rintro (⟨h1, h2⟩ | ⟨_, h2⟩)
    · rw [h1] at h2; cases h2
    · exact h2
  · intro h2; exact .inr ⟨rfl, h2⟩

/-- the best so far -/
def BestIs (l : List pl.E) (g : Nat → Bool) (k : Nat) (i : Int) : Prop :=
  (i = -1 ∧ ∀ j, j < k → g j = true) ∨ ∃ b x, i = ((b : Nat) : Int) ∧ b < k ∧ l[b]? = some x ∧ g b = false ∧ ∀ j y, j < k → l[j]? = some y → g j = false → pl.lt y x = false

theorem best_start {l : List pl.E} {g : Nat → Bool} {k : Nat} {i : Int} {x : pl.E} (h : BestIs l g k i) (hi : i < 0) (hx : l[k]? = some x) (hg : g k = false) : BestIs l g (k + 1) (k : Int) := by
  rcases h with ⟨_, h⟩ | ⟨b, _, rfl, _⟩
  · refine .inr ⟨k, x, rfl, by omega, hx, hg, fun j y hj hy hgj => ?_⟩
    by_cases e : j = k
    · subst e; rw [hx] at hy; cases hy; exact pl.lt_irrefl _
    · rw [h j (by omega)] at hgj; cases hgj
  · omega

theorem best_take {l : List pl.E} {g : Nat → Bool} {k b : Nat} {x y : pl.E} (h : BestIs l g k (b : Int)) (hx : l[b]? = some x) (hy : l[k]? = some y) (hg : g k = false) (hlt : pl.lt y x = true) : BestIs l g (k + 1) (k : Int) := by
  rcases h with ⟨h, _⟩ | ⟨b', x', e, hb, hx', hgb, hall⟩
  · omega
  · have : b' = b := by omega
    subst this
    rw [hx] at hx'; cases hx'
    refine .inr ⟨k, y, rfl, by omega, hy, hg, fun j z hj hz hgj => ?_⟩
    by_cases e : j = k
    · subst e; rw [hy] at hz; cases hz; exact pl.lt_irrefl _
    · have h1 := hall j z (by omega) hz hgj
      cases h2 : pl.lt z y with
      | false => rfl
      | true => rw [pl.lt_trans h2 hlt] at h1; cases h1

theorem best_keep {l : List pl.E} {g : Nat → Bool} {k b : Nat} {x y : pl.E} (h : BestIs l g k (b : Int)) (hx : l[b]? = some x) (hy : l[k]? = some y) (hlt : pl.lt y x = false) : BestIs l g (k + 1) (b : Int) := by
  rcases h with ⟨h, _⟩ | ⟨b', x', e, hb, hx', hgb, hall⟩
  · omega
  · have : b' = b := by omega
    subst this
    rw [hx] at hx'; cases hx'
    refine .inr ⟨b', x, rfl, by omega, hx, hgb, fun j z hj hz hgj => ?_⟩
    by_cases e : j = k
    · subst e; rw [hy] at hz; cases hz; exact hlt
    · exact hall j z (by omega) hz hgj

theorem best_skip {l : List pl.E} {g : Nat → Bool} {k : Nat} {i : Int} (h : BestIs l g k i) (hg : g k = true) : BestIs l g (k + 1) i := by
  rcases h with ⟨h, h2⟩ | ⟨b, x, e, hb, hx, hgb, hall⟩
  · refine .inl ⟨h, fun j hj => ?_⟩
    by_cases e : j = k
    · rw [e]; exact hg
    · exact h2 j (by omega)
  · refine .inr ⟨b, x, e, by omega, hx, hgb, fun j y hj hy hgj => ?_⟩
    by_cases e : j = k
    · rw [e, hg] at hgj; cases hgj
    · exact hall j y (by omega) hy hgj

theorem ahead_ok {m : Mem} {a ar : Option Addr} {n c cr : Nat} {l : List pl.E} {g : Nat → Bool} {Q : Value → Mem → Prop} (hw : Wf m) (hl : EntsIs m a n l) (hr : SlIs m ar n (boolsL n g)) (hn : n ≤ 1000)
    (h : ∀ m' i, Keep m m' → BestIs l g n i → Q (.int .i64 i) m') : CallW cx 31 [.slice a n c, .slice ar n cr] m Q := by
  have hlen := hl.1
  apply F31_ok; unfold F31
  refine ⟨fun i5 i m1 w => ∃ k : Nat, k ≤ n ∧ i = (k : Int) ∧ w = n - k ∧ Keep m m1 ∧ BestIs l g k i5, ⟨n, 0, Nat.zero_le _, rfl, rfl, Keep.refl hw, .inl ⟨rfl, fun j hj => by omega⟩⟩, ?_⟩
  rintro i5 i m1 w ⟨k, hk, rfl, rfl, k1, hB⟩
  rw [splitB_iff]
  refine ⟨fun e => ?_, fun e => ?_⟩
  · rw [ltI_true] at e
    have hkn : k < n := by unfold lenI at e; omega
    have nxt : ∀ {m' : Mem} {i' : Int}, Keep m m' → BestIs l g (k + 1) i' → ∃ n_2 : Nat, n_2 < n - k ∧ ∃ k' : Nat, k' ≤ n ∧ addI .i64 (k : Int) 1 = (k' : Int) ∧ n_2 = n - k' ∧ Keep m m' ∧ BestIs l g k' i' :=
      fun km hb => ⟨n - (k + 1), less_w hkn, k + 1, hkn, inc64 (by omega), rfl, km, hb⟩
    obtain ⟨y, hy⟩ : ∃ y, l[k]? = some y := ⟨_, List.getElem?_eq_getElem (by omega)⟩
    obtain ⟨b0, o0, rfl, h0⟩ := (SlIs.keep hr hw k1).2 k (.bool (g k)) (boolsL_get hkn)
    refine ⟨⟨by omega, by omega⟩, ?_⟩
    rw [vPtr_some]
    refine ⟨g k, by rw [Int.toNat_natCast, Nat.mul_one]; exact h0, ?_⟩
    rw [splitB_iff]
    refine ⟨fun hg => nxt k1 (best_skip hB hg), fun hg => ?_⟩
    rw [mBind_iff]
    generalize hm2 : bump m1 41 = m2
    have k2 : Keep m m2 := hm2 ▸ k1.bump
    rw [splitB_iff]
    refine ⟨fun e2 => ?_, fun e2 => ?_⟩
    · rw [ltI_true] at e2
      exact nxt k2 (best_start hB e2 hy hg)
    · rw [ltI_false] at e2
      obtain ⟨b, x, rfl, hbk, hx⟩ : ∃ b x, i5 = ((b : Nat) : Int) ∧ b < k ∧ l[b]? = some x := by
        rcases hB with ⟨h1, _⟩ | ⟨b, x, h1, h2, h3, _⟩
        · omega
        · exact ⟨b, x, h1, h2, h3⟩
      obtain ⟨b1, o1, rfl, y0, y1, y2⟩ := (hl.keep hw k2).2 _ _ hy
      obtain ⟨b2, o2, e', x0, x1, x2⟩ := (hl.keep hw k2).2 _ _ hx
      cases e'
      have hk0 : 0 ≤ (k : Int) ∧ (k : Int) < ((n : Nat) : Int) := ⟨by omega, by omega⟩
      have hb0 : 0 ≤ (b : Int) ∧ (b : Int) < ((n : Nat) : Int) := ⟨by omega, by omega⟩
      refine ⟨hk0, ?_⟩
      rw [vPtr_some]
      refine ⟨y.2.2, by rw [Int.toNat_natCast]; exact y2, ?_⟩
      have cmp : y.2.2 = x.2.2 → ∀ {m3 : Mem}, Keep m m3 → (splitB (pl.less y x) (∃ n_17 : Nat, n_17 < n - k ∧ ∃ k' : Nat, k' ≤ n ∧ addI .i64 (k : Int) 1 = (k' : Int) ∧ n_17 = n - k' ∧ Keep m m3 ∧ BestIs l g k' (k : Int)) (∃ n_18 : Nat, n_18 < n - k ∧ ∃ k' : Nat, k' ≤ n ∧ addI .i64 (k : Int) 1 = (k' : Int) ∧ n_18 = n - k' ∧ Keep m m3 ∧ BestIs l g k' (b : Int))) := by
        intro hf m3 k3
        rw [splitB_iff]
        refine ⟨fun e3 => nxt k3 (best_take hB hx hy hg (by rw [lt_less hf]; exact e3)), fun e3 => nxt k3 (best_keep hB hx hy (by rw [lt_less hf]; exact e3))⟩
      rw [splitB_iff]
      refine ⟨fun hyf => ?_, fun hyf => ?_⟩
      · refine ⟨hb0, ?_⟩
        rw [vPtr_some]
        refine ⟨x.2.2, by rw [Int.toNat_natCast]; exact x2, ?_⟩
        rw [splitB_iff]
        refine ⟨fun hxf => nxt k2 (best_take hB hx hy hg (pl.lt_iff.2 (.inl ⟨hyf, by simpa using hxf⟩))), fun hxf => ?_⟩
        have hxt : x.2.2 = true := by simpa using hxf
        refine ⟨hk0, ?_⟩
        rw [vPtr_some]
        refine ⟨y.2.2, by rw [Int.toNat_natCast]; exact y2, hb0, ?_⟩
        rw [vPtr_some]
        refine ⟨x.2.2, by rw [Int.toNat_natCast]; exact x2, ?_⟩
        have hf : y.2.2 = x.2.2 := by rw [hyf, hxt]
        rw [hf, beq_self_eq_true, splitB_true]
        refine ⟨hk0, ?_⟩
        rw [vPtr_some]
        refine ⟨y.1, by rw [Int.toNat_natCast]; exact y0, y.2.1, by rw [Int.toNat_natCast]; exact y1, y.2.2, by rw [Int.toNat_natCast]; exact y2, hb0, ?_⟩
        rw [vPtr_some]
        refine ⟨x.1, by rw [Int.toNat_natCast]; exact x0, x.2.1, by rw [Int.toNat_natCast]; exact x1, x.2.2, by rw [Int.toNat_natCast]; exact x2, ?_⟩
        exact refLess_ok (x := y) (y := x) k2.wf fun m3 k3 => ⟨_, rfl, cmp hf (k2.trans k3)⟩
      · refine ⟨hk0, ?_⟩
        rw [vPtr_some]
        refine ⟨y.2.2, by rw [Int.toNat_natCast]; exact y2, hb0, ?_⟩
        rw [vPtr_some]
        refine ⟨x.2.2, by rw [Int.toNat_natCast]; exact x2, ?_⟩
        rw [splitB_iff]
        refine ⟨fun hf => ?_, fun hf => nxt k2 (best_keep hB hx hy ?_)⟩
        · have hf : y.2.2 = x.2.2 := by simpa using hf
          refine ⟨hk0, ?_⟩
          rw [vPtr_some]
          refine ⟨y.1, by rw [Int.toNat_natCast]; exact y0, y.2.1, by rw [Int.toNat_natCast]; exact y1, y.2.2, by rw [Int.toNat_natCast]; exact y2, hb0, ?_⟩
          rw [vPtr_some]
          refine ⟨x.1, by rw [Int.toNat_natCast]; exact x0, x.2.1, by rw [Int.toNat_natCast]; exact x1, x.2.2, by rw [Int.toNat_natCast]; exact x2, ?_⟩
          exact refLess_ok (x := y) (y := x) k2.wf fun m3 k3 => ⟨_, rfl, cmp hf (k2.trans k3)⟩
        · cases h9 : pl.lt y x with
          | false => rfl
          | true =>
            rw [pl.lt_iff, hyf] at h9
            rcases h9 with ⟨q, _⟩ | ⟨q, _⟩
            · cases q
            · rw [hyf, ← q] at hf; simp at hf
  · rw [ltI_false] at e
    have : k = n := by unfold lenI at e; omega
    subst this
    exact h m1 i5 k1 hB

/-! ## picked -/

/-- does the one at this place come among so many first ones -/
def rankB (l : List pl.E) (k : Nat) (j : Nat) : Bool := match l[j]? with
  | some x => decide (pl.rank l x < k)
  | none => false

/-- does it run -/
noncomputable def runB (mm : Int) (l : List pl.E) (j : Nat) : Bool := goodB mm l && rankB l mm.toNat j

theorem rankB_at {l : List pl.E} {k j : Nat} {x : pl.E} (h : l[j]? = some x) : rankB l k j = decide (pl.rank l x < k) := by unfold rankB; rw [h]

theorem runB_at {mm : Int} {l : List pl.E} {j : Nat} {x : pl.E} (h : l[j]? = some x) : runB mm l j = true ↔ x ∈ pl.run mm l := by
  unfold runB
  rw [rankB_at h, Bool.and_eq_true, goodB_iff, decide_eq_true_iff]
  constructor
  · rintro ⟨h1, h2⟩; exact (pl.mem_run h1).2 ⟨List.mem_of_getElem? h, h2⟩
  · intro hx
    by_cases g : pl.Good mm l
    · exact ⟨g, ((pl.mem_run g).1 hx).2⟩
    · rw [pl.run_bad g] at hx; cases hx

theorem w_fall {n x k : Nat} (h : n - x = k) (hx : x < n) : n - (x + 1) < k := by omega

theorem picked_ok {mm : Int} {m : Mem} {a : Option Addr} {n c : Nat} {l : List pl.E} {Q : Value → Mem → Prop} (hw : Wf m) (hl : EntsIs m a n l) (hn : n ≤ 1000)
    (h : ∀ m' a' c', Keep m m' → SlIs m' a' n (boolsL n (runB mm l)) → Q (.slice a' n c') m') : CallW cx 30 [.int .i64 mm, .slice a n c] m Q := by
  have hlen := hl.1
  have eN : Int.toNat (lenI n) = n := by unfold lenI; omega
  apply F30_ok; unfold F30
  refine ⟨by rw [eN]; unfold lenI; omega, ?_⟩
  rw [mBind_iff, eN, boolsL_false]
  generalize hm1 : newO m _ = m1
  have k1 : Keep m m1 := hm1 ▸ (Keep.refl hw).newO
  have n1 : m1.nx = m.nx + 1 := by rw [← hm1]; rfl
  have r1 : Row m1 m.nx (boolsL n fun _ => false) 4 false := hm1 ▸ Row.newO
  have sl : ∀ {m' : Mem} {g : Nat → Bool}, Row m' m.nx (boolsL n g) 4 false → SlIs m' (some ⟨m.nx, 0, none⟩) n (boolsL n g) := fun hr =>
    ⟨boolsL_length _ _, fun i v hv => ⟨m.nx, 0, rfl, by rw [Nat.zero_add, hr.rd]; exact hv⟩⟩
  have fin : ∀ {m' : Mem} {g : Nat → Bool}, Keep m m' → Row m' m.nx (boolsL n g) 4 false → (∀ j, j < n → g j = runB mm l j) → Q (.slice (some ⟨m.nx, 0, none⟩) n n) m' := by
    intro m' g km hr hg
    refine h m' _ _ km (sl ?_)
    have e : boolsL n g = boolsL n (runB mm l) := by
      unfold boolsL
      refine List.map_congr_left fun j hj => ?_
      rw [hg j (List.mem_range.1 hj)]
    rw [← e]; exact hr
  refine ⟨fun i m2 w => ∃ k : Nat, i = (k : Int) ∧ w = 65 - k ∧ k ≤ 64 ∧ (0 < k → pl.Good mm l ∧ k ≤ mm.toNat) ∧ Keep m m2 ∧ m.nx < m2.nx ∧ Row m2 m.nx (boolsL n (rankB l k)) 4 false, ⟨65, 0, rfl, rfl, by omega, fun h => by omega, k1, by omega, ?_⟩, ?_⟩
  · have e : boolsL n (rankB l 0) = boolsL n fun _ => false := by
      unfold boolsL
      refine List.map_congr_left fun j hj => ?_
      congr 1
      unfold rankB
      split <;> simp
    rw [e]; exact r1
  rintro i m2 w ⟨k, rfl, rfl, hk64, hkg, k2, n2, r2⟩
  refine joinK_of (fun J => ∀ m', Keep m2 m' → pl.Good mm l → (k : Int) < mm → J m') (fun m3 k3 hg hkm => ?_) (fun J hJ => ?_)
  · have k3m := k2.trans k3
    have hm2 := hg.m2
    have r3 : Row m3 m.nx (boolsL n (rankB l k)) 4 false := k3.row k2.wf r2
    refine ahead_ok k3m.wf (hl.keep hw k3m) (sl r3) hn fun m4 i k4 hB => ⟨i, rfl, ?_⟩
    have k4m := k3m.trans k4
    have r4 : Row m4 m.nx (boolsL n (rankB l k)) 4 false := k4.row k3m.wf r3
    have n4 : m.nx < m4.nx := by have := k3.nx; have := k4.nx; omega
    rw [splitB_iff]
    refine ⟨fun e => ?_, fun e => ?_⟩
    · rw [ltI_true] at e
      rcases hB with ⟨_, hB⟩ | ⟨b, x, rfl, _⟩
      · refine fin k4m r4 fun j hj => ?_
        rw [hB j hj]
        obtain ⟨x, hx⟩ : ∃ x, l[j]? = some x := ⟨_, List.getElem?_eq_getElem (by omega)⟩
        have h1 := hB j hj
        rw [rankB_at hx, decide_eq_true_iff] at h1
        have : runB mm l j = true := by
          unfold runB
          rw [goodB_iff.2 hg, rankB_at hx, Bool.true_and, decide_eq_true_iff]
          omega
        rw [this]
      · omega
    · rw [ltI_false] at e
      rcases hB with ⟨h1, _⟩ | ⟨b, x, rfl, hb, hx, hgb, hall⟩
      · omega
      · have hxm := List.mem_of_getElem? hx
        rw [rankB_at hx, decide_eq_false_iff_not] at hgb
        have hrk : pl.rank l x = k := pl.least_rank hg.nd hxm (by omega) fun y hy hky => by
          obtain ⟨j, hj⟩ := List.getElem?_of_mem hy
          have hjn := (List.getElem?_eq_some_iff.1 hj).1
          exact hall j y (by omega) hj (by rw [rankB_at hj, decide_eq_false_iff_not]; omega)
        have eB : 0 + Int.toNat (b : Int) * 1 = b := by omega
        rw [eB]
        refine ⟨⟨by omega, by omega⟩, r4.okW (by have := k4m.fl; have := hw.1; omega) (by rw [boolsL_length]; omega), ?_⟩
        rw [mBind_iff]
        refine ⟨65 - (k + 1), by omega, k + 1, inc64 (by omega), rfl, by omega, fun _ => ⟨hg, by omega⟩, k4m.wr (Nat.le_refl _), by simpa using n4, ?_⟩
        have := r4.wr1 (o := b) (v := .bool true) (by rw [boolsL_length]; omega)
        have e3 := boolsL_set (n := n) (o := b) (g := rankB l k) (g' := rankB l (k + 1)) (fun j hj => by
          by_cases e : j = b
          · simp [e]
          · rw [if_neg e]
            obtain ⟨y, hy⟩ : ∃ y, l[j]? = some y := ⟨_, List.getElem?_eq_getElem (by omega)⟩
            rw [rankB_at hy, rankB_at hy, decide_eq_decide]
            have hne : pl.rank l y ≠ k := fun q => by
              have hxy := pl.rank_ne (List.mem_of_getElem? hy) hxm (by omega)
              subst hxy
              have h2 : l.Pairwise fun x y => x.1 ≠ y.1 := by have := hg.nd; rw [pl.ids, List.Nodup, List.pairwise_map] at this; exact this
              rw [List.pairwise_iff_getElem] at h2
              obtain ⟨p1, p2⟩ := List.getElem?_eq_some_iff.1 hy
              obtain ⟨q1, q2⟩ := List.getElem?_eq_some_iff.1 hx
              rcases Nat.lt_or_gt_of_ne e with q | q
              · exact h2 j b p1 q1 q (by rw [p2, q2])
              · exact h2 b j q1 p1 q (by rw [p2, q2])
            omega)
        have hbt : rankB l (k + 1) b = true := by rw [rankB_at hx, decide_eq_true_iff]; omega
        rw [hbt] at e3
        rw [← e3]; exact this
  · rw [splitB_iff]
    refine ⟨fun e => ?_, fun e => ?_⟩
    · rw [ltI_true] at e
      refine refGood_ok k2.wf (hl.keep hw k2) hn fun m6 k6 => ⟨_, rfl, ?_⟩
      rw [splitB_iff]
      refine ⟨fun hg => hJ m6 k6 (goodB_iff.1 hg) e, fun hg => ?_⟩
      have hk0 : k = 0 := by
        by_cases h0 : k = 0
        · exact h0
        · have := (hkg (by omega)).1
          rw [goodB_iff.2 this] at hg; cases hg
      subst hk0
      refine fin (k2.trans k6) (k6.row k2.wf r2) fun j hj => ?_
      unfold runB
      rw [hg, Bool.false_and]
      unfold rankB
      split <;> simp
    · rw [ltI_false] at e
      refine fin k2 r2 fun j hj => ?_
      by_cases h0 : k = 0
      · subst h0
        have hb : goodB mm l = false := goodB_false fun g => by have := g.m1; omega
        unfold runB
        rw [hb, Bool.false_and]
        unfold rankB
        split <;> simp
      · obtain ⟨hg, hkm⟩ := hkg (by omega)
        have : k = mm.toNat := by omega
        unfold runB
        rw [goodB_iff.2 hg, Bool.true_and, this]

/-! ## in -/

theorem in_ok {x : Int} {m : Mem} {a : Option Addr} {n c : Nat} {zs : List Int} {Q : Value → Mem → Prop} (hl : SlIs m a n (zs.map (Value.int .i64))) (hn : n ≤ 1000000)
    (h : Q (.bool (decide (x ∈ zs))) m) : CallW cx 32 [.slice a n c, .int .i64 x] m Q := by
  have hlen : zs.length = n := by have := hl.1; simpa using this
  apply F32_ok; unfold F32
  refine ⟨fun i m1 w => ∃ k : Nat, k ≤ n ∧ i = (k : Int) ∧ w = n - k ∧ m1 = m ∧ x ∉ zs.take k, ⟨n, 0, Nat.zero_le _, rfl, rfl, rfl, by simp⟩, ?_⟩
  rintro i m1 w ⟨k, hk, rfl, rfl, rfl, hno⟩
  rw [splitB_iff]
  refine ⟨fun e => ?_, fun e => ?_⟩
  · rw [ltI_true] at e
    have hkn : k < n := by unfold lenI at e; omega
    obtain ⟨y, hy⟩ : ∃ y, zs[k]? = some y := ⟨_, List.getElem?_eq_getElem (by rw [hlen]; exact hkn)⟩
    obtain ⟨b, o, rfl, h0⟩ := hl.2 k (.int .i64 y) (by rw [List.getElem?_map, hy]; rfl)
    refine ⟨⟨by omega, by omega⟩, ?_⟩
    rw [vPtr_some]
    refine ⟨y, by rw [Int.toNat_natCast, Nat.mul_one]; exact h0, ?_⟩
    rw [splitB_iff]
    refine ⟨fun e2 => ?_, fun e2 => ⟨n - (k + 1), less_w hkn, k + 1, hkn, inc64 (by omega), rfl, rfl, ?_⟩⟩
    · rw [eqI_true] at e2; subst e2
      rw [decide_eq_true (List.mem_of_getElem? hy)] at h; exact h
    · rw [eqI_false] at e2
      rw [List.take_add_one, hy]
      simp only [Option.toList_some, List.mem_append, List.mem_singleton]
      rintro (q | q)
      · exact hno q
      · exact e2 q.symm
  · rw [ltI_false] at e
    have : k = n := by unfold lenI at e; omega
    subst this
    rw [List.take_of_length_le (by omega)] at hno
    rw [decide_eq_false hno] at h
    exact h

/-! ## the reference's Worst, First -/

/-- the last so far of those that run and may be stopped -/
def LastIs (mm : Int) (l : List pl.E) (k : Nat) (i : Int) : Prop :=
  (i = -1 ∧ ∀ j y, j < k → l[j]? = some y → y ∈ pl.run mm l → y.2.2 = true) ∨
  ∃ b x, i = ((b : Nat) : Int) ∧ b < k ∧ l[b]? = some x ∧ x ∈ pl.run mm l ∧ x.2.2 = false ∧ ∀ j y, j < k → l[j]? = some y → y ∈ pl.run mm l → y.2.2 = false → pl.less x y = false

theorem less_irrefl (x : pl.E) : pl.less x x = false := by
  rw [← lt_less rfl]; exact pl.lt_irrefl x

theorem less_trans {x y z : pl.E} (h1 : pl.less x y = true) (h2 : pl.less y z = true) : pl.less x z = true := by
  rw [pl.less_iff] at *; omega

theorem last_skip {mm : Int} {l : List pl.E} {k : Nat} {i : Int} {z : pl.E} (h : LastIs mm l k i) (hz : l[k]? = some z) (hn : z ∈ pl.run mm l → z.2.2 = true) : LastIs mm l (k + 1) i := by
  rcases h with ⟨h1, h2⟩ | ⟨b, x, h1, h2, h3, h4, h5, h6⟩
  · refine .inl ⟨h1, fun j y hj hy hr => ?_⟩
    by_cases e : j = k
    · subst e; rw [hz] at hy; cases hy; exact hn hr
    · exact h2 j y (by omega) hy hr
  · refine .inr ⟨b, x, h1, by omega, h3, h4, h5, fun j y hj hy hr hf => ?_⟩
    by_cases e : j = k
    · subst e; rw [hz] at hy; cases hy; rw [hn hr] at hf; cases hf
    · exact h6 j y (by omega) hy hr hf

theorem last_start {mm : Int} {l : List pl.E} {k : Nat} {i : Int} {z : pl.E} (h : LastIs mm l k i) (hi : i < 0) (hz : l[k]? = some z) (hr : z ∈ pl.run mm l) (hf : z.2.2 = false) : LastIs mm l (k + 1) (k : Int) := by
  rcases h with ⟨h1, h2⟩ | ⟨b, x, h1, _⟩
  · refine .inr ⟨k, z, rfl, by omega, hz, hr, hf, fun j y hj hy hr' hf' => ?_⟩
    by_cases e : j = k
    · subst e; rw [hz] at hy; cases hy; exact less_irrefl _
    · have := h2 j y (by omega) hy hr'
      rw [this] at hf'; cases hf'
  · omega

theorem last_take {mm : Int} {l : List pl.E} {k b : Nat} {x z : pl.E} (h : LastIs mm l k (b : Int)) (hx : l[b]? = some x) (hz : l[k]? = some z) (hr : z ∈ pl.run mm l) (hf : z.2.2 = false) (hlt : pl.less x z = true) : LastIs mm l (k + 1) (k : Int) := by
  rcases h with ⟨h1, _⟩ | ⟨b', x', h1, h2, h3, h4, h5, h6⟩
  · omega
  · have : b' = b := by omega
    subst this
    rw [hx] at h3; cases h3
    refine .inr ⟨k, z, rfl, by omega, hz, hr, hf, fun j y hj hy hr' hf' => ?_⟩
    by_cases e : j = k
    · subst e; rw [hz] at hy; cases hy; exact less_irrefl _
    · have h7 := h6 j y (by omega) hy hr' hf'
      cases h8 : pl.less z y with
      | false => rfl
      | true => rw [less_trans hlt h8] at h7; cases h7

theorem last_keep {mm : Int} {l : List pl.E} {k b : Nat} {x z : pl.E} (h : LastIs mm l k (b : Int)) (hx : l[b]? = some x) (hz : l[k]? = some z) (hlt : pl.less x z = false) : LastIs mm l (k + 1) (b : Int) := by
  rcases h with ⟨h1, _⟩ | ⟨b', x', h1, h2, h3, h4, h5, h6⟩
  · omega
  · have : b' = b := by omega
    subst this
    rw [hx] at h3; cases h3
    refine .inr ⟨b', x, rfl, by omega, hx, h4, h5, fun j y hj hy hr' hf' => ?_⟩
    by_cases e : j = k
    · subst e; rw [hz] at hy; cases hy; exact hlt
    · exact h6 j y (by omega) hy hr' hf'

theorem runB_not {mm : Int} {l : List pl.E} {j : Nat} {x : pl.E} (h : l[j]? = some x) (hb : runB mm l j = false) : x ∉ pl.run mm l := fun hx => by
  rw [(runB_at h).2 hx] at hb; cases hb

theorem refWorst_ok {mm : Int} {m : Mem} {a : Option Addr} {n c : Nat} {l : List pl.E} {Q : Value → Mem → Prop} (hw : Wf m) (hl : EntsIs m a n l) (hn : n ≤ 1000)
    (h : ∀ m', Keep m m' → Q (.tuple #[.agg (encE (pl.worst mm l).1).toArray, .bool (pl.worst mm l).2]) m') : CallW cx 18 [.int .i64 mm, .slice a n c] m Q := by
  have hlen := hl.1
  apply F18_ok; unfold F18
  rw [mBind_iff]
  generalize hm1 : newO m _ = m1
  have k1 : Keep m m1 := hm1 ▸ (Keep.refl hw).newO
  have n1' : m1.nx = m.nx + 1 := by rw [← hm1]; rfl
  have r1 : Row m1 m.nx [.int .i64 0, .int .i64 0, .bool false] 41 false := hm1 ▸ Row.newO
  refine picked_ok k1.wf (hl.keep hw k1) hn fun m2 ar cr k2 hr => ⟨_, _, _, rfl, ?_⟩
  have k2m := k1.trans k2
  have r2 : Row m2 m.nx [.int .i64 0, .int .i64 0, .bool false] 41 false := k2.row k1.wf r1
  refine ⟨fun i7 i m3 w => ∃ k : Nat, k ≤ n ∧ i = (k : Int) ∧ w = n - k ∧ Keep m2 m3 ∧ LastIs mm l k i7, ⟨n, 0, Nat.zero_le _, rfl, rfl, Keep.refl k2m.wf, .inl ⟨rfl, fun j y hj => by omega⟩⟩, ?_⟩
  rintro i7 i m3 w ⟨k, hk, rfl, rfl, k3, hL⟩
  rw [splitB_iff]
  refine ⟨fun e => ?_, fun e => ?_⟩
  · rw [ltI_true] at e
    have hkn : k < n := by unfold lenI at e; omega
    have nxt : ∀ {m' : Mem} {i' : Int}, Keep m2 m' → LastIs mm l (k + 1) i' → ∃ n_2 : Nat, n_2 < n - k ∧ ∃ k' : Nat, k' ≤ n ∧ addI .i64 (k : Int) 1 = (k' : Int) ∧ n_2 = n - k' ∧ Keep m2 m' ∧ LastIs mm l k' i' :=
      fun km hb => ⟨n - (k + 1), less_w hkn, k + 1, hkn, inc64 (by omega), rfl, km, hb⟩
    obtain ⟨z, hz⟩ : ∃ z, l[k]? = some z := ⟨_, List.getElem?_eq_getElem (by omega)⟩
    rw [mBind_iff]
    generalize hm4 : bump m3 27 = m4
    have k4 : Keep m2 m4 := hm4 ▸ k3.bump
    have k4m := k2m.trans k4
    obtain ⟨b0, o0, rfl, h0⟩ := (SlIs.keep hr k2m.wf k4).2 k (.bool (runB mm l k)) (boolsL_get hkn)
    have hk0 : 0 ≤ (k : Int) ∧ (k : Int) < ((n : Nat) : Int) := ⟨by omega, by omega⟩
    refine ⟨hk0, ?_⟩
    rw [vPtr_some]
    refine ⟨runB mm l k, by rw [Int.toNat_natCast, Nat.mul_one]; exact h0, ?_⟩
    rw [splitB_iff]
    refine ⟨fun hrun => ?_, fun hrun => nxt k4 (last_skip hL hz fun q => absurd q (runB_not hz hrun))⟩
    have hzr := (runB_at hz).1 hrun
    obtain ⟨b1, o1, rfl, z0, z1, z2⟩ := (hl.keep hw k4m).2 _ _ hz
    refine ⟨hk0, ?_⟩
    rw [vPtr_some]
    refine ⟨z.2.2, by rw [Int.toNat_natCast]; exact z2, ?_⟩
    rw [splitB_iff]
    refine ⟨fun hf => ?_, fun hf => nxt k4 (last_skip hL hz fun _ => by simpa using hf)⟩
    have hzf : z.2.2 = false := by simpa using hf
    rw [splitB_iff]
    refine ⟨fun e2 => ?_, fun e2 => ?_⟩
    · rw [ltI_true] at e2
      exact nxt k4 (last_start hL e2 hz hzr hzf)
    · rw [ltI_false] at e2
      obtain ⟨b, x, rfl, hbk, hx⟩ : ∃ b x, i7 = ((b : Nat) : Int) ∧ b < k ∧ l[b]? = some x := by
        rcases hL with ⟨h1, _⟩ | ⟨b, x, h1, h2, h3, _⟩
        · omega
        · exact ⟨b, x, h1, h2, h3⟩
      obtain ⟨b2, o2, e', x0, x1, x2⟩ := (hl.keep hw k4m).2 _ _ hx
      cases e'
      have hb0 : 0 ≤ (b : Int) ∧ (b : Int) < ((n : Nat) : Int) := ⟨by omega, by omega⟩
      refine ⟨hb0, ?_⟩
      rw [vPtr_some]
      refine ⟨x.1, by rw [Int.toNat_natCast]; exact x0, x.2.1, by rw [Int.toNat_natCast]; exact x1, x.2.2, by rw [Int.toNat_natCast]; exact x2, hk0, ?_⟩
      rw [vPtr_some]
      refine ⟨z.1, by rw [Int.toNat_natCast]; exact z0, z.2.1, by rw [Int.toNat_natCast]; exact z1, z.2.2, by rw [Int.toNat_natCast]; exact z2, ?_⟩
      refine refLess_ok (x := x) (y := z) k4m.wf fun m5 k5 => ⟨_, rfl, ?_⟩
      rw [splitB_iff]
      exact ⟨fun e3 => nxt (k4.trans k5) (last_take hL hx hz hzr hzf e3), fun e3 => nxt (k4.trans k5) (last_keep hL hx hz e3)⟩
  · rw [ltI_false] at e
    have hkn : k = n := by unfold lenI at e; omega
    subst hkn
    have k3m := k2m.trans k3
    have r3 : Row m3 m.nx [.int .i64 0, .int .i64 0, .bool false] 41 false := k3.row k2m.wf r2
    have okw : okW m3 m.nx 0 3 := r3.okW (by have := k3m.fl; have := hw.1; omega) (by simp)
    have inl : ∀ {y : pl.E}, y ∈ pl.run mm l → ∃ j, j < k ∧ l[j]? = some y := fun hy => by
      obtain ⟨j, hj⟩ := List.getElem?_of_mem (pl.run_sub hy)
      exact ⟨j, by have := (List.getElem?_eq_some_iff.1 hj).1; omega, hj⟩
    rw [splitB_iff]
    refine ⟨fun e2 => ?_, fun e2 => ?_⟩
    · rw [ltI_true] at e2
      have hwst : pl.worst mm l = (pl.zeroE, false) := by
        rcases hL with ⟨_, h2⟩ | ⟨b, x, h1, _⟩
        · exact pl.worst_none fun y hy => by obtain ⟨j, hj1, hj2⟩ := inl hy; exact h2 j y hj1 hj2 hy
        · omega
      refine ⟨okw, ?_⟩
      rw [mBind_iff]
      generalize hm4 : wr m3 m.nx 0 _ = m4
      have r4 : Row m4 m.nx [.int .i64 0, .int .i64 0, .bool false] 41 false := by
        have := r3.wr (o := 0) (vs := [.int .i64 0, .int .i64 0, .bool false]) (by simp)
        rw [hm4] at this; exact this
      refine ⟨0, by rw [r4.rd]; rfl, 0, by rw [r4.rd]; rfl, false, by rw [r4.rd]; rfl, ?_⟩
      have := h m4 (hm4 ▸ k3m.wr (Nat.le_refl _))
      rw [hwst] at this
      exact this
    · rw [ltI_false] at e2
      rcases hL with ⟨h1, _⟩ | ⟨b, x, rfl, h2, h3, h4, h5, h6⟩
      · omega
      · have hg : pl.Good mm l := by
          by_cases g : pl.Good mm l
          · exact g
          · rw [pl.run_bad g] at h4; cases h4
        have hwst : pl.worst mm l = (x, true) := pl.worst_is hg h4 h5 fun y hy hf => by obtain ⟨j, hj1, hj2⟩ := inl hy; exact h6 j y hj1 hj2 hy hf
        obtain ⟨b2, o2, rfl, x0, x1, x2⟩ := (hl.keep hw k3m).2 _ _ h3
        refine ⟨⟨by omega, by omega⟩, ?_⟩
        rw [vPtr_some]
        refine ⟨x.1, by rw [Int.toNat_natCast]; exact x0, x.2.1, by rw [Int.toNat_natCast]; exact x1, x.2.2, by rw [Int.toNat_natCast]; exact x2, okw, ?_⟩
        rw [mBind_iff]
        generalize hm4 : wr m3 m.nx 0 _ = m4
        have r4 : Row m4 m.nx [.int .i64 x.1, .int .i64 x.2.1, .bool x.2.2] 41 false := by
          have := r3.wr (o := 0) (vs := [.int .i64 x.1, .int .i64 x.2.1, .bool x.2.2]) (by simp)
          rw [hm4] at this; exact this
        refine ⟨x.1, by rw [r4.rd]; rfl, x.2.1, by rw [r4.rd]; rfl, x.2.2, by rw [r4.rd]; rfl, ?_⟩
        have := h m4 (hm4 ▸ k3m.wr (Nat.le_refl _))
        rw [hwst] at this
        exact this

theorem refFirst_ok {mm : Int} {m : Mem} {a : Option Addr} {n c : Nat} {l : List pl.E} {Q : Value → Mem → Prop} (hw : Wf m) (hl : EntsIs m a n l) (hn : n ≤ 1000)
    (h : ∀ m', Keep m m' → Q (.tuple #[.agg (encE (pl.first mm l).1).toArray, .bool (pl.first mm l).2]) m') : CallW cx 19 [.int .i64 mm, .slice a n c] m Q := by
  have hlen := hl.1
  apply F19_ok; unfold F19
  rw [mBind_iff]
  generalize hm1 : newO m _ = m1
  have k1 : Keep m m1 := hm1 ▸ (Keep.refl hw).newO
  have n1' : m1.nx = m.nx + 1 := by rw [← hm1]; rfl
  have r1 : Row m1 m.nx [.int .i64 0, .int .i64 0, .bool false] 41 false := hm1 ▸ Row.newO
  have res : ∀ {m3 : Mem} (x : pl.E) (b : Bool), Keep m m3 → Row m3 m.nx [.int .i64 0, .int .i64 0, .bool false] 41 false → pl.first mm l = (x, b) →
      (okW m3 m.nx (0) 3 ∧ (mBind (wr m3 m.nx (0) [.int .i64 (x.1), .int .i64 (x.2.1), .bool (x.2.2)]) fun m6 => (∃ (xr : Int), rd m6 m.nx (0) = some (.int .i64 (xr)) ∧ (∃ (xr_3 : Int), rd m6 m.nx (1) = some (.int .i64 (xr_3)) ∧ (∃ (br : Bool), rd m6 m.nx (2) = some (.bool (br)) ∧ (Q (.tuple #[.agg #[.int .i64 (xr), .int .i64 (xr_3), .bool (br)], .bool (b)]) m6)))))) := by
    intro m3 x b k3m r3 hf
    refine ⟨r3.okW (by have := k3m.fl; have := hw.1; omega) (by simp), ?_⟩
    rw [mBind_iff]
    generalize hm4 : wr m3 m.nx 0 _ = m4
    have r4 : Row m4 m.nx [.int .i64 x.1, .int .i64 x.2.1, .bool x.2.2] 41 false := by
      have := r3.wr (o := 0) (vs := [.int .i64 x.1, .int .i64 x.2.1, .bool x.2.2]) (by simp)
      rw [hm4] at this; exact this
    refine ⟨x.1, by rw [r4.rd]; rfl, x.2.1, by rw [r4.rd]; rfl, x.2.2, by rw [r4.rd]; rfl, ?_⟩
    have := h m4 (hm4 ▸ k3m.wr (Nat.le_refl _))
    rw [hf] at this
    exact this
  refine refGood_ok k1.wf (hl.keep hw k1) hn fun m2 k2 => ⟨_, rfl, ?_⟩
  have k2m := k1.trans k2
  have r2 : Row m2 m.nx [.int .i64 0, .int .i64 0, .bool false] 41 false := k2.row k1.wf r1
  rw [splitB_iff]
  refine ⟨fun e => ?_, fun e => ?_⟩
  · have hb : ¬ pl.Good mm l := fun g => by rw [goodB_iff.2 g] at e; cases e
    refine res pl.zeroE false k2m r2 ?_
    unfold pl.first; rw [pl.rest_bad hb]; rfl
  · have hg : pl.Good mm l := goodB_iff.1 (by simpa using e)
    refine picked_ok k2m.wf (hl.keep hw k2m) hn fun m4 ar cr k4 hr => ⟨_, _, _, rfl, ?_⟩
    have k4m := k2m.trans k4
    have r4 := k4.row k2m.wf r2
    refine ahead_ok k4m.wf (hl.keep hw k4m) hr hn fun m5 i k5 hB => ⟨i, rfl, ?_⟩
    have k5m := k4m.trans k5
    have r5 := k5.row k4m.wf r4
    rw [splitB_iff]
    refine ⟨fun e2 => ?_, fun e2 => ?_⟩
    · rw [ltI_true] at e2
      refine res pl.zeroE false k5m r5 ?_
      rcases hB with ⟨_, hB⟩ | ⟨b, x, rfl, _⟩
      · refine pl.first_none fun y hy => ?_
        obtain ⟨j, hj⟩ := List.getElem?_of_mem hy
        exact (runB_at hj).1 (hB j (by have := (List.getElem?_eq_some_iff.1 hj).1; omega))
      · omega
    · rw [ltI_false] at e2
      rcases hB with ⟨h1, _⟩ | ⟨b, x, rfl, hb, hx, hgb, hall⟩
      · omega
      · obtain ⟨b2, o2, rfl, x0, x1, x2⟩ := (hl.keep hw k5m).2 _ _ hx
        refine ⟨⟨by omega, by omega⟩, ?_⟩
        rw [vPtr_some]
        refine ⟨x.1, by rw [Int.toNat_natCast]; exact x0, x.2.1, by rw [Int.toNat_natCast]; exact x1, x.2.2, by rw [Int.toNat_natCast]; exact x2, ?_⟩
        refine res x true k5m r5 (pl.first_is hg (List.mem_of_getElem? hx) (runB_not hx hgb) fun y hy hyn => ?_)
        obtain ⟨j, hj⟩ := List.getElem?_of_mem hy
        refine hall j y (by have := (List.getElem?_eq_some_iff.1 hj).1; omega) hj ?_
        cases hq : runB mm l j with
        | false => rfl
        | true => exact absurd ((runB_at hj).1 hq) hyn

/-! ## the reference's Pick -/

theorem refPick_ok {mm : Int} {m : Mem} {a : Option Addr} {n c : Nat} {l : List pl.E} {Q : Value → Mem → Prop} (hw : Wf m) (hl : EntsIs m a n l) (hn : n ≤ 1000)
    (h : ∀ m' a' n' c', Keep m m' → SlIs m' a' n' ((pl.pick mm l).map (Value.int .i64)) → Q (.slice a' n' c') m') : CallW cx 24 [.int .i64 mm, .slice a n c] m Q := by
  have hlen := hl.1
  apply F24_ok; unfold F24
  refine picked_ok hw hl hn fun m1 ar cr k1 hr => ⟨_, _, _, rfl, ?_⟩
  refine ⟨fun a6 n6 c6 i m2 w => ∃ d : Nat, d ≤ 1024 ∧ i = (d : Int) ∧ w = 1024 - d ∧ Keep m1 m2 ∧ Grow m2 a6 n6 c6 1 3 ((pl.idsTo mm l d).map (Value.int .i64)) ∧ ∀ b, a6 = some ⟨b, 0, none⟩ → m1.nx ≤ b,
    ⟨1024, 0, by omega, rfl, rfl, Keep.refl k1.wf, Grow.nil _ _ _, fun b e => by cases e⟩, ?_⟩
  rintro a6 n6 c6 i m2 w ⟨d, hd, rfl, rfl, k2, hG, hb⟩
  rw [splitB_iff]
  refine ⟨fun e => ?_, fun e => ?_⟩
  · rw [leI_true] at e
    have hd2 : d < 1024 := by omega
    refine ⟨fun a3 n3 c3 i m3 w => ∃ k : Nat, k ≤ n ∧ i = (k : Int) ∧ w = n - k ∧ Keep m1 m3 ∧ (∃ L : List Int, Grow m3 a3 n3 c3 1 3 ((pl.idsTo mm l d ++ L).map (Value.int .i64)) ∧ L.length ≤ 1 ∧ ((∃ j x, j < k ∧ l[j]? = some x ∧ x ∈ pl.run mm l ∧ x.1 = (d : Int)) ∧ L = [(d : Int)] ∨ (∀ j x, j < k → l[j]? = some x → x ∈ pl.run mm l → x.1 ≠ (d : Int)) ∧ L = [])) ∧ ∀ b, a3 = some ⟨b, 0, none⟩ → m1.nx ≤ b,
      ⟨n, 0, Nat.zero_le _, rfl, rfl, k2, ⟨[], by rw [List.append_nil]; exact hG, by simp, .inr ⟨fun j x hj => by omega, rfl⟩⟩, hb⟩, ?_⟩
    rintro a3 n3 c3 i m3 w ⟨k, hk, rfl, rfl, k3, ⟨L, hG3, hL1, hL⟩, hb3⟩
    have k3m := k1.trans k3
    rw [splitB_iff]
    refine ⟨fun e2 => ?_, fun e2 => ?_⟩
    · rw [ltI_true] at e2
      have hkn : k < n := by unfold lenI at e2; omega
      obtain ⟨z, hz⟩ : ∃ z, l[k]? = some z := ⟨_, List.getElem?_eq_getElem (by omega)⟩
      refine joinK_of (fun J => ∀ (b : Bool) m', Keep m3 m' → (b = true ↔ z ∈ pl.run mm l ∧ z.1 = (d : Int)) → J b m') (fun b m4 k4 hbz => ?_) (fun J hJ => ?_)
      · have k14 := k3.trans k4
        rw [splitB_iff]
        refine ⟨fun hb => ?_, fun hb => ?_⟩
        · obtain ⟨hzr, hzd⟩ := hbz.1 hb
          have hg : pl.Good mm l := by
            by_cases g : pl.Good mm l
            · exact g
            · rw [pl.run_bad g] at hzr; cases hzr
          have hL0 : L = [] ∧ ∀ j x, j < k → l[j]? = some x → x ∈ pl.run mm l → x.1 ≠ (d : Int) := by
            rcases hL with ⟨⟨j, x, hj, hx, hxr, hxd⟩, _⟩ | ⟨h1, h2⟩
            · exfalso
              have h2 : l.Pairwise fun x y => x.1 ≠ y.1 := by have := hg.nd; rw [pl.ids, List.Nodup, List.pairwise_map] at this; exact this
              rw [List.pairwise_iff_getElem] at h2
              obtain ⟨p1, p2⟩ := List.getElem?_eq_some_iff.1 hx
              obtain ⟨q1, q2⟩ := List.getElem?_eq_some_iff.1 hz
              exact h2 j k p1 q1 hj (by rw [p2, q2, hxd, hzd])
            · exact ⟨h2, h1⟩
          obtain ⟨rfl, hno⟩ := hL0
          rw [List.append_nil] at hG3
          rw [mBind_iff]
          generalize hm5 : newO m4 _ = m5
          have hn3 : n3 ≤ 1024 := by
            have := hG3.1
            have h1 := pl.idsTo_length (m := mm) (l := l) d
            rw [List.length_map] at this
            omega
          obtain ⟨m6, e6, k6, hG6, hb6⟩ := push_ok (cx := cx) (t := 25) (i := ti3) (z := .int .i64 0) k14 k1.wf (k4.grow k3m.wf hG3) hb3 hm5 un25 ty3 ti3s z3 rfl rfl (by rw [ti3b]; omega) (by omega)
          refine ⟨_, _, _, m6, e6, n - (k + 1), less_w hkn, k + 1, hkn, inc64 (by omega), rfl, k6, ⟨[(d : Int)], ?_, by simp, .inl ⟨⟨k, z, by omega, hz, hzr, hzd⟩, rfl⟩⟩, ?_⟩
          · rw [ints_snoc]; exact hG6
          · rintro b' e'; cases e'; exact hb6
        · refine ⟨n - (k + 1), less_w hkn, k + 1, hkn, inc64 (by omega), rfl, k14, ⟨L, k4.grow k3m.wf hG3, hL1, ?_⟩, hb3⟩
          have hnz : ¬ (z ∈ pl.run mm l ∧ z.1 = (d : Int)) := fun q => by rw [hbz.2 q] at hb; cases hb
          rcases hL with ⟨⟨j, x, hj, hx⟩, h2⟩ | ⟨h1, h2⟩
          · exact .inl ⟨⟨j, x, by omega, hx⟩, h2⟩
          · refine .inr ⟨fun j x hj hx hxr hxd => ?_, h2⟩
            by_cases e : j = k
            · subst e; rw [hz] at hx; cases hx; exact hnz ⟨hxr, hxd⟩
            · exact h1 j x (by omega) hx hxr hxd
      · obtain ⟨b0, o0, rfl, h0⟩ := (SlIs.keep hr k1.wf k3).2 k (.bool (runB mm l k)) (boolsL_get hkn)
        refine ⟨⟨by omega, by omega⟩, ?_⟩
        rw [vPtr_some]
        refine ⟨runB mm l k, by rw [Int.toNat_natCast, Nat.mul_one]; exact h0, ?_⟩
        rw [splitB_iff]
        refine ⟨fun hrun => ?_, fun hrun => hJ false m3 (Keep.refl k3m.wf) ⟨fun q => (by cases q), fun q => absurd q.1 (runB_not hz hrun)⟩⟩
        obtain ⟨b1, o1, rfl, z0, _, _⟩ := (hl.keep hw k3m).2 _ _ hz
        refine ⟨⟨by omega, by omega⟩, ?_⟩
        rw [vPtr_some]
        refine ⟨z.1, by rw [Int.toNat_natCast]; exact z0, hJ _ m3 (Keep.refl k3m.wf) ?_⟩
        rw [eqI_true]
        exact ⟨fun q => ⟨(runB_at hz).1 hrun, q⟩, fun q => q.2⟩
    · rw [ltI_false] at e2
      have hkn : k = n := by unfold lenI at e2; omega
      subst hkn
      refine ⟨1024 - (d + 1), by omega, d + 1, by omega, inc64 (by omega), rfl, k3, ?_, hb3⟩
      rw [pl.idsTo_succ]
      have hLe : (if (d : Int) ∈ pl.pick mm l then [(d : Int)] else []) = L := by
        rcases hL with ⟨⟨j, x, hj, hx, hxr, hxd⟩, h2⟩ | ⟨h1, h2⟩
        · rw [if_pos (pl.mem_pick.2 ⟨x, hxr, hxd⟩), h2]
        · rw [if_neg, h2]
          intro q
          obtain ⟨x, hxr, hxd⟩ := pl.mem_pick.1 q
          obtain ⟨j, hj⟩ := List.getElem?_of_mem (pl.run_sub hxr)
          exact h1 j x (by have := (List.getElem?_eq_some_iff.1 hj).1; omega) hj hxr hxd
      rw [hLe]; exact hG3
  · rw [leI_false] at e
    have hde : d = 1024 := by omega
    subst hde
    rw [pl.idsTo_all] at hG
    refine h m2 _ _ _ (k1.trans k2) ⟨(hG.1).trans (Nat.mul_one _), fun i v hv => ?_⟩
    rcases hG.2 with ⟨rfl, rfl, rfl⟩ | ⟨b, rfl, rfl, _, hR⟩
    · have h8 : ((pl.pick mm l).map (Value.int .i64)).length = 0 * 1 := hG.1
      have := (List.getElem?_eq_some_iff.1 hv).1
      omega
    · exact ⟨b, 0, rfl, by rw [hR.rd, Nat.zero_add]; exact hv⟩

/-! ## the reference's Beats -/

theorem refBeats_ok {mm : Int} {m : Mem} {a : Option Addr} {n c : Nat} {l : List pl.E} {x : pl.E} {Q : Value → Mem → Prop} (hw : Wf m) (hl : EntsIs m a n l) (hn : n ≤ 900)
    (h : ∀ m', Keep m m' → Q (.tuple #[.int .i64 (pl.beats mm l x).1, .bool (pl.beats mm l x).2]) m') : CallW cx 20 [.int .i64 mm, .slice a n c, .agg (encE x).toArray] m Q := by
  obtain ⟨x0, x1, xb⟩ := x
  apply F20_ok; unfold F20
  rw [mBind_iff]
  generalize hm1 : newO m _ = m1
  have k1 : Keep m m1 := hm1 ▸ (Keep.refl hw).newO
  have n1 : m1.nx = m.nx + 1 := by rw [← hm1]; rfl
  have r1 : Row m1 m.nx [.int .i64 x0, .int .i64 x1, .bool xb] 41 false := hm1 ▸ Row.newO
  rw [mBind_iff]
  generalize hm2 : bump m1 7 = m2
  have k12 : Keep m1 m2 := hm2 ▸ (Keep.refl k1.wf).bump
  have k2 := k1.trans k12
  have n2 : m2.nx = m1.nx + 7 := by rw [← hm2]; rfl
  have r2 : Row m2 m.nx [.int .i64 x0, .int .i64 x1, .bool xb] 41 false := hm2 ▸ r1.bump
  generalize hA : addO m2 (m1.nx + 0) (row [] 41 false) = mA
  have kA : Keep m1 mA := hA ▸ k12.addO (by omega) (by omega)
  have nA : mA.nx = m2.nx := by rw [← hA]; simp
  have gA : mA.hp.get (m1.nx + 0) = some (row [] 41 false) := by rw [← hA, addO_get, if_pos rfl]
  have flA : mA.fl = m2.fl := by rw [← hA]; simp
  have hlA := hl.keep hw (k1.trans kA)
  obtain ⟨a2, c2, m3, e3, k3, h3⟩ := append_clR (m := setFl mA m1.nx) (c := c) (Wf.setFl kA.wf (by omega)) (show (setFl mA m1.nx).hp.get (m1.nx + 0) = some (.cells _ _ _ false) from gA) (show EntsIs mA a n l from hlA) (by omega)
  refine ⟨a2, n, c2, m3, e3, x0, by rw [r2.rd]; rfl, x1, by rw [r2.rd]; rfl, xb, by rw [r2.rd]; rfl, ?_⟩
  have kU := Keep.unset kA.wf k3
  rw [flA] at kU
  generalize hB : addO (setFl m3 m2.fl) (m1.nx + 4) _ = mB
  have nx3 : mA.nx ≤ m3.nx := k3.nx
  have kB : Keep m1 mB := hB ▸ (kA.trans kU).addO (by omega) (by simp; omega)
  have rB : Row mB (m1.nx + 4) (encE (x0, x1, xb)) 41 false := Row.of_row (by rw [← hB, addO_get, if_pos rfl]; rfl)
  have gB : ∀ b, b ≠ m1.nx + 4 → mB.hp.get b = m3.hp.get b := fun b hb => by rw [← hB, addO_get, if_neg hb]; rfl
  have hcl : ClR m1 mB a2 n c2 l := by
    rcases h3 with ⟨h1, h2, h3, h4⟩ | ⟨hp, ⟨hG1, hG2⟩, hb⟩
    · subst h1
      refine .inl ⟨rfl, List.length_eq_zero_iff.1 hl.1, h4, .inr ⟨m1.nx + 0, writeL .nil [] 0, 0, 41, h3, by omega, ?_⟩⟩
      rw [gB _ (by omega), h2]; exact gA
    · have hb' : ∀ b, a2 = some ⟨b, 0, none⟩ → mA.nx ≤ b := hb
      refine .inr ⟨hp, ⟨hG1, ?_⟩, fun b e => by have := hb' b e; omega⟩
      rcases hG2 with h1 | ⟨b, h1, h2, h3, h4⟩
      · exact .inl h1
      · have h5 := hb' b h1
        have hf := kB.fl
        have hf2 := k1.wf.1
        exact .inr ⟨b, h1, h2, by omega, h4.congr (gB b (by omega))⟩
  obtain ⟨m4, e4, k4, hO⟩ := push_entsR kB hcl rB (by omega)
  refine ⟨_, _, _, m4, e4, ?_⟩
  rw [mBind_iff]
  have k4m := k1.trans k4
  refine refGood_ok k4.wf hO.ents (by omega) fun m6 k6 => ⟨_, rfl, ?_⟩
  have k6m := k4m.trans k6
  rw [splitB_iff]
  refine ⟨fun e => ?_, fun e => ?_⟩
  · have hb : ¬ pl.Good mm (l ++ [(x0, x1, xb)]) := fun g => by rw [goodB_iff.2 g] at e; cases e
    have := h m6 k6m
    rw [pl.beats_bad hb] at this
    exact this
  · refine refPick_ok k6m.wf (hO.ents.keep k4.wf k6) (by omega) fun m7 a7 n7 c7 k7 hp7 => ⟨_, _, _, rfl, ?_⟩
    have k7m := k6m.trans k7
    have r7 : Row m7 m.nx [.int .i64 x0, .int .i64 x1, .bool xb] 41 false := ((k4.trans k6).trans k7).row k1.wf r1
    obtain ⟨hl7, hs7⟩ := sl_small hp7
    refine ⟨x0, by rw [r7.rd]; rfl, in_ok hp7 (by omega) ⟨_, rfl, ?_⟩⟩
    rw [splitB_iff]
    refine ⟨fun e => ?_, fun e => ?_⟩
    · have hno : x0 ∉ pl.pick mm (l ++ [(x0, x1, xb)]) := by simpa using e
      have := h m7 k7m
      unfold pl.beats at this
      rw [if_neg hno] at this
      exact this
    · have hin : x0 ∈ pl.pick mm (l ++ [(x0, x1, xb)]) := by simpa using e
      refine refPick_ok k7m.wf (hl.keep hw k7m) (by omega) fun m9 a9 n9 c9 k9 hp9 => ⟨_, _, _, rfl, ?_⟩
      obtain ⟨hl9, hs9⟩ := sl_small hp9
      have k9m := k7m.trans k9
      refine ⟨fun i m8 w => ∃ k : Nat, k ≤ n9 ∧ i = (k : Int) ∧ w = n9 - k ∧ m8 = m9 ∧ ∀ j ∈ (pl.pick mm l).take k, j ∈ pl.pick mm (l ++ [(x0, x1, xb)]), ⟨n9, 0, Nat.zero_le _, rfl, rfl, rfl, by simp⟩, ?_⟩
      rintro i m8 w ⟨k, hk, rfl, rfl, rfl, hall⟩
      have hbe : pl.beats mm l (x0, x1, xb) = (match (pl.pick mm l).find? fun i => decide (i ∉ pl.pick mm (l ++ [(x0, x1, xb)])) with | some i => (i, true) | none => (-1, true)) := by
        unfold pl.beats; rw [if_pos hin]; rfl
      rw [splitB_iff]
      refine ⟨fun e => ?_, fun e => ?_⟩
      · rw [ltI_true] at e
        have hkn : k < n9 := by unfold lenI at e; omega
        obtain ⟨y, hy⟩ : ∃ y, (pl.pick mm l)[k]? = some y := ⟨_, List.getElem?_eq_getElem (by omega)⟩
        obtain ⟨b, o, rfl, h0⟩ := hp9.2 k (.int .i64 y) (by rw [List.getElem?_map, hy]; rfl)
        refine ⟨⟨by omega, by omega⟩, ?_⟩
        rw [vPtr_some]
        refine ⟨y, by rw [Int.toNat_natCast, Nat.mul_one]; exact h0, ?_⟩
        refine in_ok (SlIs.keep hp7 k7m.wf k9) (by omega) ⟨_, rfl, ?_⟩
        rw [splitB_iff]
        refine ⟨fun e2 => ⟨⟨by omega, by omega⟩, ?_⟩, fun e2 => ⟨n9 - (k + 1), less_w hkn, k + 1, hkn, inc64 (by omega), rfl, rfl, ?_⟩⟩
        · rw [vPtr_some]
          refine ⟨y, by rw [Int.toNat_natCast, Nat.mul_one]; exact h0, ?_⟩
          have hno : y ∉ pl.pick mm (l ++ [(x0, x1, xb)]) := by simpa using e2
          have hf : (pl.pick mm l).find? (fun i => decide (i ∉ pl.pick mm (l ++ [(x0, x1, xb)]))) = some y := by
            rw [← List.take_append_drop k (pl.pick mm l), List.find?_append]
            have h9 : ((pl.pick mm l).take k).find? (fun i => decide (i ∉ pl.pick mm (l ++ [(x0, x1, xb)]))) = none := by
              rw [List.find?_eq_none]
              intro j hj
              simp [hall j hj]
            have h10 : (pl.pick mm l).drop k = y :: (pl.pick mm l).drop (k + 1) := by
              have hkl : k < (pl.pick mm l).length := by omega
              rw [List.drop_eq_getElem_cons hkl]
              rw [List.getElem?_eq_getElem hkl] at hy
              cases hy; rfl
            rw [h9, h10, List.find?_cons]
            simp [hno]
          have := h _ k9m
          rw [hbe, hf] at this
          exact this
        · have hyin : y ∈ pl.pick mm (l ++ [(x0, x1, xb)]) := by simpa using e2
          rw [List.take_add_one, hy]
          intro j hj
          simp only [Option.toList_some, List.mem_append, List.mem_singleton] at hj
          rcases hj with q | q
          · exact hall j q
          · rw [q]; exact hyin
      · rw [ltI_false] at e
        have : k = n9 := by unfold lenI at e; omega
        subst this
        rw [List.take_of_length_le (by omega)] at hall
        have hf : (pl.pick mm l).find? (fun i => decide (i ∉ pl.pick mm (l ++ [(x0, x1, xb)]))) = none := by
          rw [List.find?_eq_none]
          intro j hj
          simp [hall j hj]
        have := h _ k9m
        rw [hbe, hf] at this
        exact this

/-! ## two that are one are alike -/

def andO (o r : Option Bool) : Option Bool := match o with
  | some true => r
  | some false => some false
  | none => none

set_option maxRecDepth 100000 in
theorem eqE_raw (a b : Int) (c : Bool) (m : Mem) : eqV cx m 40 41 (.agg #[.int .i64 a, .int .i64 b, .bool c]) (.agg #[.int .i64 a, .int .i64 b, .bool c]) = andO (some (decide (a = a))) (andO (some (decide (b = b))) (andO (some (c == c)) (some true))) := by
  kernel_rfl

theorem eqE (x : pl.E) (m : Mem) : eqV cx m 40 41 (.agg (encE x).toArray) (.agg (encE x).toArray) = some true := by
  obtain ⟨a, b, c⟩ := x
  refine (eqE_raw a b c m).trans ?_
  simp [andO]

end Go.Proofs.Ytmjpkannhbaklaa.vc
