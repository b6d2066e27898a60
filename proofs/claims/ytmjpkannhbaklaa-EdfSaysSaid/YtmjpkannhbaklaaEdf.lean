/-
  Package edf: what Good, order, split, Pick, Worst, First, Beats, Less return.
-/
import Derived.Test.YtmjpkannhbaklaaEnts
namespace Go.Proofs.Ytmjpkannhbaklaa.vc
open Go Go.AX
set_option linter.unusedVariables false
set_option linter.unusedSimpArgs false

theorem inc64 {k : Nat} (h : k ≤ 1000000) : addI .i64 (k : Int) 1 = ((k + 1 : Nat) : Int) := by rw [addI_64 (by omega) (by omega)]; omega
theorem less_w {n k : Nat} (h : k < n) : n - (k + 1) < n - k := by omega

/-! ## Less -/

theorem less_ok {x y : pl.E} {m : Mem} {Q : Value → Mem → Prop} (hw : Wf m) (h : ∀ m', Keep m m' → Q (.bool (pl.less x y)) m') : CallW cx 12 [.agg (encE x).toArray, .agg (encE y).toArray] m Q := by
  obtain ⟨x0, x1, xb⟩ := x
  obtain ⟨y0, y1, yb⟩ := y
  apply F12_ok; unfold F12
  rw [mBind_iff]
  generalize hm1 : newO m _ = m1
  have k1 : Keep m m1 := hm1 ▸ (Keep.refl hw).newO
  have n1 : m1.nx = m.nx + 1 := by rw [← hm1]; rfl
  have r1 : Row m1 m.nx [.int .i64 x0, .int .i64 x1, .bool xb] 29 false := hm1 ▸ Row.newO
  rw [mBind_iff]
  generalize hm2 : newO m1 _ = m2
  have k2 : Keep m m2 := hm2 ▸ k1.newO
  have r1' : Row m2 m.nx [.int .i64 x0, .int .i64 x1, .bool xb] 29 false := hm2 ▸ r1.old (by omega)
  have r2 : Row m2 m1.nx [.int .i64 y0, .int .i64 y1, .bool yb] 29 false := hm2 ▸ Row.newO
  refine ⟨x0, by rw [r1'.rd]; rfl, x1, by rw [r1'.rd]; rfl, xb, by rw [r1'.rd]; rfl, y0, by rw [r2.rd]; rfl, y1, by rw [r2.rd]; rfl, yb, by rw [r2.rd]; rfl, ?_⟩
  refine compare27 (x := (x0, x1, xb)) (y := (y0, y1, yb)) k2.wf fun m4 k4 => ⟨_, rfl, ?_⟩
  have e : ltI (pl.cmp0 (x0, x1, xb) (y0, y1, yb)) 0 = pl.less (x0, x1, xb) (y0, y1, yb) := by simp [ltI, pl.less]
  rw [e]
  exact h _ (k2.trans k4)

/-! ## Good -/

/-- the ids of those so far -/
def hadF (l : List pl.E) : Int → Option Value := fun j => if j ∈ pl.ids l then some (.bool true) else none

theorem mk49 (n : Int) : AX.mapKey cx 49 (.int .i64 n) = some (.int .i64, 4) := by kernel_rfl
theorem z4 : zeroT cx 4 = some (.bool false) := by kernel_rfl

theorem ids_snoc (l : List pl.E) (x : pl.E) : pl.ids (l ++ [x]) = pl.ids l ++ [x.1] := by simp [pl.ids]
theorem nfix_snoc (l : List pl.E) (x : pl.E) : pl.nfix (l ++ [x]) = pl.nfix l + if x.2.2 = true then 1 else 0 := by
  unfold pl.nfix; rw [List.countP_append, List.countP_cons, List.countP_nil]; simp
theorem nfix_le (l : List pl.E) : pl.nfix l ≤ l.length := List.countP_le_length

theorem nfix_small {l : List pl.E} {n k : Nat} (h : l.length = n) (hn : (n : Int) ≤ 64) : pl.nfix (l.take k) ≤ 1000000 := by
  have h1 := nfix_le (l.take k)
  rw [List.length_take] at h1
  omega

theorem take_snoc {l : List pl.E} {i : Nat} {x : pl.E} (h : l[i]? = some x) : l.take (i + 1) = l.take i ++ [x] := by
  rw [List.take_add_one, h]; rfl

open Classical in
noncomputable def goodB (m : Int) (l : List pl.E) : Bool := decide (pl.Good m l)
open Classical in
theorem goodB_iff {m : Int} {l : List pl.E} : goodB m l = true ↔ pl.Good m l := by unfold goodB; rw [decide_eq_true_iff]
theorem goodB_false {m : Int} {l : List pl.E} (h : ¬ pl.Good m l) : goodB m l = false := Bool.eq_false_iff.2 fun e => h (goodB_iff.1 e)

theorem good_ok {c : Nat} {mm : Int} {a : Option Addr} {n : Nat} {l : List pl.E} {m : Mem} {Q : Value → Mem → Prop} (hw : Wf m) (hl : EntsIs m a n l) (h : ∀ m', Keep m m' → Q (.bool (goodB mm l)) m') : CallW cx 10 [.int .i64 mm, .slice a n c] m Q := by
  have no : ¬ pl.Good mm l → ∀ m', Keep m m' → Q (.bool false) m' := fun hn m' k => by
    have := h m' k
    rw [goodB_false hn] at this
    exact this
  apply F10_ok; unfold F10
  simp only [joinK]
  rw [splitB_iff]
  refine ⟨fun e => no (fun g => by rw [ltI_true] at e; have := g.m1; omega) m (Keep.refl hw), fun e1 => ?_⟩
  rw [splitB_iff]
  refine ⟨fun e => no (fun g => by rw [ltI_true] at e; have := g.m2; omega) m (Keep.refl hw), fun e2 => ?_⟩
  rw [splitB_iff]
  refine ⟨fun e => no (fun g => by rw [ltI_true, lenI] at e; have := g.len; have := hl.1; omega) m (Keep.refl hw), fun e3 => ?_⟩
  rw [ltI_false] at e1 e2 e3
  unfold lenI at *
  rw [mBind_iff]
  generalize hm2 : newO m _ = m2
  have k2 : Keep m m2 := hm2 ▸ (Keep.refl hw).newO
  have n2 : m2.nx = m.nx + 1 := by rw [← hm2]; rfl
  have i2 : IMap m2 m.nx .i64 (hadF []) := hm2 ▸ IMap.newO
  refine ⟨fun f i m3 w => ∃ k : Nat, k ≤ n ∧ i = (k : Int) ∧ w = n - k ∧ f = (pl.nfix (l.take k) : Int) ∧ Keep m m3 ∧ m.nx < m3.nx ∧ IMap m3 m.nx .i64 (hadF (l.take k)) ∧ (∀ x ∈ l.take k, 0 ≤ x.1 ∧ x.1 ≤ 1023) ∧ (pl.ids (l.take k)).Nodup,
    ⟨n, 0, by omega, rfl, by omega, rfl, k2, by omega, i2, by simp, by simp [pl.ids]⟩, ?_⟩
  rintro f i m3 w ⟨k, hk, rfl, rfl, rfl, k3, n3, i3, hid, hnd⟩
  rw [splitB_iff]
  refine ⟨fun e => ?_, fun e => ?_⟩
  · rw [ltI_true] at e
    have hkn : k < n := by omega
    obtain ⟨x, hx⟩ : ∃ x, l[k]? = some x := ⟨_, List.getElem?_eq_getElem (by rw [hl.1]; exact hkn)⟩
    obtain ⟨x0, x1, xb⟩ := x
    refine ⟨⟨by omega, by omega⟩, ?_⟩
    obtain ⟨b, o, rfl, h0, h1, h2⟩ := (hl.keep hw k3).2 k _ hx
    rw [vPtr_some]
    refine ⟨x0, by rw [Int.toNat_natCast]; exact h0, x1, by rw [Int.toNat_natCast]; exact h1, xb, by rw [Int.toNat_natCast]; exact h2, ?_⟩
    rw [mBind_iff]
    generalize hm4 : newO m3 _ = m4
    have k4 : Keep m m4 := hm4 ▸ k3.newO
    have r4 : Row m4 m3.nx [.int .i64 0, .int .i64 0, .bool false] 29 false := hm4 ▸ Row.newO
    have n4 : m4.nx = m3.nx + 1 := by rw [← hm4]; rfl
    have i4 : IMap m4 m.nx .i64 (hadF (l.take k)) := i3.congr (by rw [← hm4, newO_get, if_neg (by omega)])
    refine ⟨r4.okW (by have := k4.fl; have := k3.wf.1; have := k3.fl; omega) (by simp), ?_⟩
    rw [mBind_iff]
    generalize hm5 : wr m4 m3.nx 0 _ = m5
    have k5 : Keep m m5 := hm5 ▸ k4.wr (by omega)
    have r5 : Row m5 m3.nx [.int .i64 x0, .int .i64 x1, .bool xb] 29 false := by
      have := r4.wr (o := 0) (vs := [.int .i64 x0, .int .i64 x1, .bool xb]) (by simp)
      rw [hm5] at this
      exact this
    have i5 : IMap m5 m.nx .i64 (hadF (l.take k)) := i4.congr (by rw [← hm5, wr_get (by omega)])
    have n5 : m5.nx = m4.nx := by rw [← hm5]; simp
    have hmem : (x0, x1, xb) ∈ l := List.mem_of_getElem? hx
    refine ⟨x0, by rw [r5.rd]; rfl, ?_⟩
    rw [splitB_iff]
    refine ⟨fun e => no (fun g => by rw [ltI_true] at e; have := (g.id _ hmem).1; simp at this; omega) m5 k5, fun e4 => ⟨x0, by rw [r5.rd]; rfl, ?_⟩⟩
    rw [splitB_iff]
    refine ⟨fun e => no (fun g => by rw [leI_true] at e; have := (g.id _ hmem).2; simp at this; omega) m5 k5, fun e5 => ⟨x0, by rw [r5.rd]; rfl, ?_⟩⟩
    rw [ltI_false] at e4
    rw [leI_false] at e5
    by_cases hin : x0 ∈ pl.ids (l.take k)
    · refine ⟨true, ?_, ?_⟩
      · rw [i5.look (mk49 x0) z4]
        unfold hadF
        rw [if_pos hin]
        rfl
      · rw [splitB_true]
        refine no (fun g => ?_) m5 k5
        have h1 := g.nd
        rw [← List.take_append_drop (k + 1) l, take_snoc hx, List.append_assoc] at h1
        unfold pl.ids at h1 hin
        rw [List.map_append, List.map_append, List.nodup_append] at h1
        exact h1.2.2 _ hin x0 (by simp) rfl
    · refine ⟨false, ?_, ?_⟩
      · rw [i5.look (mk49 x0) z4]
        unfold hadF
        rw [if_neg hin]
        rfl
      · rw [splitB_false]
        refine ⟨x0, by rw [r5.rd]; rfl, ?_⟩
        obtain ⟨m7, u1, u2, u3, u4, u5⟩ := i5.update (by have := k5.fl; have := hw.1; omega) (mk49 x0) (.bool true)
        have k7 : Keep m m7 := ⟨k5.wf.at (r := m.nx) (by omega) u3 u4 (fun b hb => u5 b hb), by have := k5.nx; omega, by rw [u4]; exact k5.fl, fun b hb => by rw [u5 b (by omega)]; exact k5.get b hb⟩
        have r7 : Row m7 m3.nx [.int .i64 x0, .int .i64 x1, .bool xb] 29 false := r5.congr (u5 _ (by omega))
        refine ⟨m7, u1, xb, by rw [r7.rd]; rfl, ?_⟩
        have i7 : IMap m7 m.nx .i64 (hadF (l.take (k + 1))) := by
          have : updI (hadF (l.take k)) x0 (.bool true) = hadF (l.take (k + 1)) := by
            funext j
            unfold updI hadF
            rw [take_snoc hx, ids_snoc]
            by_cases hj : j = x0
            · subst hj; simp
            · rw [if_neg hj]; simp [hj]
          rw [← this]; exact u2
        have ek : addI .i64 (k : Int) 1 = ((k + 1 : Nat) : Int) := inc64 (by omega)
        have hid' : ∀ x ∈ l.take (k + 1), 0 ≤ x.1 ∧ x.1 ≤ 1023 := by
          rw [take_snoc hx]
          intro y hy
          rcases List.mem_append.1 hy with q | q
          · exact hid y q
          · simp at q; subst q; exact ⟨e4, by show x0 ≤ 1023; omega⟩
        have hnd' : (pl.ids (l.take (k + 1))).Nodup := by
          rw [take_snoc hx, ids_snoc, List.nodup_append]
          exact ⟨hnd, by simp, fun a ha b hb => by simp at hb; subst hb; rintro rfl; exact hin ha⟩
        have hf := nfix_snoc (l.take k) (x0, x1, xb)
        rw [← take_snoc hx] at hf
        have hfl := nfix_small (k := k) hl.1 e3
        have n7 : m.nx < m7.nx := by omega
        cases xb with
        | true =>
          rw [splitB_true]
          refine ⟨n - (k + 1), less_w hkn, k + 1, hkn, ek, rfl, ?_, k7, n7, i7, hid', hnd'⟩
          rw [inc64 hfl, hf]; simp
        | false =>
          rw [splitB_false]
          refine ⟨n - (k + 1), less_w hkn, k + 1, hkn, ek, rfl, ?_, k7, n7, i7, hid', hnd'⟩
          rw [hf]; simp
  · rw [ltI_false] at e
    have : k = n := by omega
    subst this
    have hlk : l.take k = l := List.take_of_length_le (by rw [hl.1]; exact Nat.le_refl _)
    rw [hlk] at hid hnd ⊢
    have := h m3 k3
    have hg : goodB mm l = leI (pl.nfix l : Int) mm := by
      rw [Bool.eq_iff_iff, goodB_iff, leI_true]
      exact ⟨fun g => g.fx, fun g => ⟨by omega, by omega, by have := hl.1; omega, hid, hnd, g⟩⟩
    rw [← hg]; exact this


/-! ## in order -/

theorem sort_ok {m : Mem} {a : Option Addr} {n c : Nat} {l : List pl.E} {Q : Value → Mem → Prop} (hG : Grow m a n c 3 29 (l.flatMap encE)) (hn : 0 < n) (hn2 : n ≤ 1000000)
    (h : ∀ m' b, a = some ⟨b, 0, none⟩ → Row m b (l.flatMap encE) 29 true → m' = wr m b 0 ((pl.srt l).flatMap encE) → Grow m' a n c 3 29 ((pl.srt l).flatMap encE) → Q (.tuple #[]) m') : CallW cx 40 [.slice a n c, .func (.func 41) #[] #[]] m Q := by
  obtain ⟨hl, hG⟩ := hG
  rcases hG with ⟨_, h1, _⟩ | ⟨b, rfl, rfl, hfl, hR⟩
  · omega
  · have hlen : l.length = c := by rw [flat_len] at hl; omega
    have hsl : ((pl.srt l).flatMap encE).length = (l.flatMap encE).length := by rw [flat_len, flat_len, pl.srt_length]
    have hR2 : Row (wr m b 0 ((pl.srt l).flatMap encE)) b ((pl.srt l).flatMap encE) 29 true := by
      have := hR.wr (o := 0) (vs := (pl.srt l).flatMap encE) (by rw [hsl]; omega)
      have e : over (l.flatMap encE) 0 ((pl.srt l).flatMap encE) = (pl.srt l).flatMap encE := by
        unfold over
        rw [List.take_zero, List.drop_eq_nil_of_le (by omega), List.nil_append, List.append_nil]
      rw [e] at this; exact this
    refine CallW.ov ov40 (r := .tuple #[]) (m' := wr m b 0 ((pl.srt l).flatMap encE)) ?_ (h _ b rfl hR rfl ⟨by rw [flat_len, pl.srt_length, hlen], .inr ⟨b, rfl, rfl, by simpa using hfl, hR2⟩⟩)
    obtain ⟨tr, hg, hc⟩ := hR
    have hrl : readL tr (c * 3) 0 = some (l.flatMap encE) := readL_of hl fun i v hv => by rw [Nat.zero_add, hc i (List.getElem?_eq_some_iff.1 hv).1]; exact hv
    cases c with
    | zero => omega
    | succ k =>
      unfold srtA rowA
      simp only [if_true, hg, hrl, anewK, decE_flat, hlen]
      rw [if_pos ⟨by rw [flat_len, hlen]; omega, hfl, by omega⟩]
      unfold wr
      simp only [hg]

/-- a slice in order: nothing, or a block of one's own -/
def OrdIs (m0 m : Mem) (a : Option Addr) (n c : Nat) (l : List pl.E) : Prop :=
  (n = 0 ∧ l = [] ∧ c = 0 ∧ (a = none ∨ ∃ b cc k e, a = some ⟨b, 0, none⟩ ∧ m.hp.get b = some (.cells cc k e false))) ∨
  (0 < n ∧ c = n ∧ l.length = n ∧ ∃ b, a = some ⟨b, 0, none⟩ ∧ m0.nx ≤ b ∧ Row m b ((pl.srt l).flatMap encE) 29 true)

theorem order_ok {m : Mem} {a : Option Addr} {n c : Nat} {l : List pl.E} {Q : Value → Mem → Prop} (hw : Wf m) (hl : EntsIs m a n l) (hn : n ≤ 1000000)
    (h : ∀ m' a' c', Keep m m' → OrdIs m m' a' n c' l → Q (.slice a' n c') m') : CallW cx 33 [.slice a n c] m Q := by
  apply F33_ok; unfold F33
  refine clone_ok hw hl hn (fun m' a' c' h0 k ha => ?_) (fun m' a' c' hpos k ha => ?_)
  · subst h0
    have hl0 : l = [] := List.length_eq_zero_iff.1 hl.1
    refine ⟨_, _, _, rfl, CallW.ov ov40 (r := .tuple #[]) (m' := m') ?_ ⟨rfl, ?_⟩⟩
    · unfold srtA rowA
      simp only [if_true]
    · refine h m' a' c' k (.inl ⟨rfl, hl0, ?_, ?_⟩)
      · rcases ha with ⟨_, h2⟩ | ⟨b, cc, kk, e, _, h2, _⟩ <;> exact h2
      · rcases ha with ⟨h1, _⟩ | ⟨b, cc, kk, e, h1, _, _, h4⟩
        · exact .inl h1
        · exact .inr ⟨b, cc, kk, e, h1, h4⟩
  · refine ⟨_, _, _, rfl, sort_ok ha.1 hpos hn fun m2 b hb hR hm2 hG2 => ⟨rfl, ?_⟩⟩
    subst hb
    have hbb := ha.2 b rfl
    have k2 : Keep m m2 := hm2 ▸ k.wr hbb
    refine h m2 _ _ k2 (.inr ⟨hpos, ?_, hl.1, b, rfl, hbb, ?_⟩)
    · rcases hG2.2 with ⟨e, _⟩ | ⟨b', e, h2, _⟩
      · cases e
      · exact h2
    · rcases hG2.2 with ⟨e, _⟩ | ⟨b', e, h2, _, h3⟩
      · cases e
      · cases e; exact h3

/-! ## split -/

theorem bound_lo {i : Nat} {y : Nat} (h : i ≤ y) : boundA 0 (some (.int .i64 (i : Int))) y = some i := by
  unfold boundA
  simp only
  rw [show (decide (0 ≤ (i : Int)) && decide ((i : Int) ≤ (y : Int))) = true by simp; omega]
  simp

theorem bound_hi {d i : Nat} {y : Nat} (h : i ≤ y) : boundA d (some (.int .i64 (i : Int))) y = some i := by
  unfold boundA
  simp only
  rw [show (decide (0 ≤ (i : Int)) && decide ((i : Int) ≤ (y : Int))) = true by simp; omega]
  simp

theorem slice_nil {m : Mem} {n : Nat} {hi : Option Value} {lo : Option Value} (h1 : boundA 0 hi 0 = some 0) (h2 : boundA 0 lo 0 = some 0) : sliceOp cx m 22 (.slice none 0 0) lo hi none = some (.slice none 0 0) := by
  unfold sliceOp
  simp only [un22, sz29, h1, h2]

theorem slice_some {m : Mem} {b n c i j : Nat} {cc : Tr Value} {k : Nat} {e : TypeId} {x : Bool} (hb : m.hp.get b = some (.cells cc k e x)) (he : x = true → e = 29) {hi lo : Option Value} (h1 : boundA n hi c = some j) (h2 : boundA 0 lo j = some i) (hj : j ≤ c) :
    sliceOp cx m 22 (.slice (some ⟨b, 0, none⟩) n c) lo hi none = some (.slice (some ⟨b, i * 3, none⟩) (j - i) (c - i)) := by
  unfold sliceOp
  simp only [un22, sz29, h1, h2]
  have hs : sameSize cx m b 3 = true := by
    unfold sameSize
    simp only [hb]
    cases x with
    | false => rfl
    | true => rw [he rfl]; simp only [sz29]; rfl
  rw [hs, Nat.ble_eq_true_of_le hj]
  simp [addA]

theorem split_ok {mm : Int} {m : Mem} {a : Option Addr} {n c : Nat} {l : List pl.E} {Q : Value → Mem → Prop} (hw : Wf m) (hl : EntsIs m a n l)
    (h : ∀ m' a1 n1 c1 a2 n2 c2, Keep m m' → EntsIs m' a1 n1 (pl.run mm l) → EntsIs m' a2 n2 (pl.rest mm l) → Q (.tuple #[.slice a1 n1 c1, .slice a2 n2 c2]) m') : CallW cx 25 [.int .i64 mm, .slice a n c] m Q := by
  apply F25_ok; unfold F25
  refine good_ok hw hl fun m1 k1 => ⟨_, rfl, ?_⟩
  rw [splitB_iff]
  refine ⟨fun e => ?_, fun e => ?_⟩
  · have hb : ¬ pl.Good mm l := fun g => by rw [goodB_iff.2 g] at e; cases e
    refine h m1 _ _ _ _ _ _ k1 ?_ ?_
    · rw [pl.run_bad hb]; exact EntsIs.nil _ _
    · rw [pl.rest_bad hb]; exact EntsIs.nil _ _
  · have hg : pl.Good mm l := goodB_iff.1 (by simpa using e)
    have h1 := hg.m1
    have h2 := hg.m2
    have h3 := hg.len
    have h4 := hl.1
    refine order_ok k1.wf (hl.keep hw k1) (by omega) fun m2 a2 c2 k2 ho => ⟨_, _, _, rfl, ?_⟩
    rw [mBind_iff]
    generalize hm3 : bump m2 8 = m3
    have k3 : Keep m m3 := hm3 ▸ (k1.trans k2).bump
    have g3 : m3.hp = m2.hp := by rw [← hm3]; rfl
    rcases ho with ⟨rfl, rfl, rfl, ha⟩ | ⟨hpos, rfl, _, b, rfl, hbn, hR⟩
    · have e1 : mnI mm (lenI 0) = ((0 : Nat) : Int) := by unfold mnI lenI; rw [if_pos (by omega)]
      rw [e1]
      have er : pl.run mm [] = [] := List.eq_nil_of_length_eq_zero (by rw [pl.run_length hg]; simp)
      have er2 : pl.rest mm [] = [] := by rw [pl.rest_good hg]; apply List.eq_nil_of_length_eq_zero; rw [List.length_drop, pl.srt_length]; simp
      rcases ha with rfl | ⟨b, cc, kk, e0, rfl, hb⟩
      · refine ⟨none, 0, 0, slice_nil (n := 0) (bound_hi (Nat.le_refl _)) rfl, none, 0, 0, slice_nil (n := 0) rfl (bound_lo (Nat.le_refl _)), ?_⟩
        refine h m3 _ _ _ _ _ _ k3 ?_ ?_
        · rw [er]; exact EntsIs.nil _ _
        · rw [er2]; exact EntsIs.nil _ _
      · refine ⟨_, _, _, slice_some (i := 0) (j := 0) (by rw [g3]; exact hb) (fun q => by cases q) (bound_hi (Nat.le_refl _)) rfl (Nat.le_refl _), _, _, _, slice_some (i := 0) (j := 0) (by rw [g3]; exact hb) (fun q => by cases q) rfl (bound_lo (Nat.le_refl _)) (Nat.le_refl _), ?_⟩
        refine h m3 _ _ _ _ _ _ k3 ?_ ?_
        · rw [er]; exact EntsIs.nil _ _
        · rw [er2]; exact EntsIs.nil _ _
    · generalize hq : min mm.toNat c2 = q
      have e1 : mnI mm (lenI c2) = (q : Int) := by
        unfold mnI lenI
        split <;> omega
      rw [e1]
      obtain ⟨cc, hcc, _⟩ := id hR
      have hR3 : Row m3 b ((pl.srt l).flatMap encE) 29 true := hR.congr (by rw [g3])
      refine ⟨_, _, _, slice_some (i := 0) (j := q) (by rw [g3]; exact hcc) (fun _ => rfl) (bound_hi (by omega)) rfl (by omega), _, _, _, slice_some (i := q) (j := c2) (by rw [g3]; exact hcc) (fun _ => rfl) rfl (bound_lo (by omega)) (Nat.le_refl _), ?_⟩
      refine h m3 _ _ _ _ _ _ k3 ?_ ?_
      · rw [pl.run_good hg]
        refine EntsIs.ofRow (o := 0) hR3 rfl ?_ fun i hi => ?_
        · rw [List.length_take, pl.srt_length]; omega
        · rw [List.getElem?_take, if_pos (by omega), Nat.zero_add]
      · rw [pl.rest_good hg]
        refine EntsIs.ofRow (o := q) hR3 rfl ?_ fun i hi => ?_
        · rw [List.length_drop, pl.srt_length]; omega
        · rw [List.getElem?_drop]
          by_cases hc : mm.toNat ≤ c2
          · congr 1; omega
          · omega

/-! ## Pick -/

theorem flat_one (x : pl.E) : [x].flatMap encE = encE x := by simp

theorem ids_take {l : List pl.E} {k : Nat} {x : pl.E} (h : l[k]? = some x) : pl.ids (l.take (k + 1)) = pl.ids (l.take k) ++ [x.1] := by
  rw [take_snoc h, ids_snoc]

theorem ints_snoc (l : List Int) (x : Int) : (l ++ [x]).map (Value.int .i64) = l.map (Value.int .i64) ++ [.int .i64 x] := by simp

theorem sortI_eq (l : List Int) : sortI l = pl.srtI l := rfl

/-- integers sorted in place -/
theorem ints_sort_ok {m : Mem} {a : Option Addr} {n c : Nat} {zs : List Int} {Q : Value → Mem → Prop} (hG : Grow m a n c 1 3 (zs.map (Value.int .i64))) (hn2 : n ≤ 1000000)
    (h : ∀ m', (m' = m ∨ ∃ b ls, a = some ⟨b, 0, none⟩ ∧ m' = wr m b 0 ls) → Grow m' a n c 1 3 ((pl.srtI zs).map (Value.int .i64)) → Q (.tuple #[]) m') : CallW cx 26 [.slice a n c] m Q := by
  obtain ⟨hl, hG⟩ := hG
  rw [List.length_map, Nat.mul_one] at hl
  have hsl : (pl.srtI zs).length = zs.length := (pl.srtI_perm zs).length_eq
  rcases hG with ⟨rfl, rfl, rfl⟩ | ⟨b, rfl, rfl, hfl, hR⟩
  · have : zs = [] := List.length_eq_zero_iff.1 hl
    subst this
    refine CallW.ov ov26 (r := .tuple #[]) (m' := m) (by unfold intsA rowA; simp only [if_true]) (h m (.inl rfl) ⟨?_, .inl ⟨rfl, rfl, rfl⟩⟩)
    rw [List.length_map, hsl]; rfl
  · cases c with
    | zero =>
      have : zs = [] := List.length_eq_zero_iff.1 hl
      subst this
      have e0 : pl.srtI [] = [] := List.mergeSort_nil
      refine CallW.ov ov26 (r := .tuple #[]) (m' := m) (by unfold intsA rowA; simp only [if_true]) (h m (.inl rfl) ⟨by rw [e0]; rfl, .inr ⟨b, rfl, rfl, hfl, by rw [e0]; exact hR⟩⟩)
    | succ k =>
      have hR2 : Row (wr m b 0 ((pl.srtI zs).map (Value.int .i64))) b ((pl.srtI zs).map (Value.int .i64)) 3 true := by
        have := hR.wr (o := 0) (vs := (pl.srtI zs).map (Value.int .i64)) (by simp [hsl])
        have e : over (zs.map (Value.int .i64)) 0 ((pl.srtI zs).map (Value.int .i64)) = (pl.srtI zs).map (Value.int .i64) := by
          unfold over
          rw [List.take_zero, List.drop_eq_nil_of_le (by simp [hsl]), List.nil_append, List.append_nil]
        rw [e] at this; exact this
      refine CallW.ov ov26 (r := .tuple #[]) (m' := wr m b 0 ((pl.srtI zs).map (Value.int .i64))) ?_ (h _ (.inr ⟨b, _, rfl, rfl⟩) ⟨by rw [List.length_map, hsl, hl, Nat.mul_one], .inr ⟨b, rfl, rfl, by simpa using hfl, hR2⟩⟩)
      obtain ⟨tr, hg, hc⟩ := hR
      have hrl : readL tr ((k + 1) * 1) 0 = some (zs.map (Value.int .i64)) := readL_of (by simp; omega) fun i v hv => by rw [Nat.zero_add, hc i (List.getElem?_eq_some_iff.1 hv).1]; exact hv
      unfold intsA rowA
      simp only [if_true, hg, hrl, anewI, intsOf_map]
      rw [if_pos ⟨by simp; omega, hfl, by omega⟩]
      unfold wr
      simp only [hg, sortI_eq]

theorem pick_ok {mm : Int} {m : Mem} {a : Option Addr} {n c : Nat} {l : List pl.E} {Q : Value → Mem → Prop} (hw : Wf m) (hl : EntsIs m a n l)
    (h : ∀ m' a' n' c', Keep m m' → SlIs m' a' n' ((pl.pick mm l).map (Value.int .i64)) → Q (.slice a' n' c') m') : CallW cx 11 [.int .i64 mm, .slice a n c] m Q := by
  apply F11_ok; unfold F11
  refine split_ok hw hl fun m1 a1 n1 c1 a2 n2 c2 k1 hr _ => ⟨_, _, _, _, _, _, rfl, ?_⟩
  have hn1 : n1 ≤ 64 := by
    rw [← hr.1]
    by_cases g : pl.Good mm l
    · rw [pl.run_length g]; have := g.len; omega
    · rw [pl.run_bad g]; simp
  refine ⟨fun a5 n5 c5 i m2 w => ∃ k : Nat, k ≤ n1 ∧ i = (k : Int) ∧ w = n1 - k ∧ n5 = k ∧ Keep m m2 ∧ Keep m1 m2 ∧ Grow m2 a5 n5 c5 1 3 ((pl.ids ((pl.run mm l).take k)).map (Value.int .i64)) ∧ ∀ b, a5 = some ⟨b, 0, none⟩ → m1.nx ≤ b,
    ⟨n1, 0, Nat.zero_le _, rfl, rfl, rfl, k1, Keep.refl k1.wf, Grow.nil _ _ _, fun b e => by cases e⟩, ?_⟩
  rintro a5 n5 c5 i m2 w ⟨k, hk, rfl, rfl, rfl, k2, k12, hG, hb⟩
  rw [splitB_iff]
  refine ⟨fun e => ?_, fun e => ?_⟩
  · rw [ltI_true] at e
    have hkn : n5 < n1 := by unfold lenI at e; omega
    obtain ⟨x, hx⟩ : ∃ x, (pl.run mm l)[n5]? = some x := ⟨_, List.getElem?_eq_getElem (by rw [hr.1]; exact hkn)⟩
    obtain ⟨b, o, rfl, h0, h1, h2⟩ := (hr.keep k1.wf k12).2 n5 _ hx
    refine ⟨⟨by omega, by omega⟩, ?_⟩
    rw [vPtr_some]
    refine ⟨x.1, by rw [Int.toNat_natCast]; exact h0, x.2.1, by rw [Int.toNat_natCast]; exact h1, x.2.2, by rw [Int.toNat_natCast]; exact h2, ?_⟩
    rw [mBind_iff]
    generalize hm3 : newO m2 _ = m3
    have k3 : Keep m2 m3 := hm3 ▸ (Keep.refl k2.wf).newO
    have n3 : m3.nx = m2.nx + 1 := by rw [← hm3]; rfl
    have r3 : Row m3 m2.nx [.int .i64 0, .int .i64 0, .bool false] 29 false := hm3 ▸ Row.newO
    refine ⟨r3.okW (by have := k3.fl; have := k2.wf.1; omega) (by simp), ?_⟩
    rw [mBind_iff]
    generalize hm4 : wr m3 m2.nx 0 _ = m4
    have k4 : Keep m2 m4 := hm4 ▸ k3.wr (Nat.le_refl _)
    have r4 : Row m4 m2.nx [.int .i64 x.1, .int .i64 x.2.1, .bool x.2.2] 29 false := by
      have := r3.wr (o := 0) (vs := [.int .i64 x.1, .int .i64 x.2.1, .bool x.2.2]) (by simp)
      rw [hm4] at this
      exact this
    refine ⟨x.1, by rw [r4.rd]; rfl, ?_⟩
    rw [mBind_iff]
    generalize hm5 : newO m4 _ = m5
    have hG4 := k4.grow k2.wf hG
    have hb4 : ∀ b, a5 = some ⟨b, 0, none⟩ → m1.nx ≤ b := hb
    obtain ⟨m6, e6, k6, hG6, hb6⟩ := push_ok (cx := cx) (t := 25) (i := ti3) (z := .int .i64 0) (k12.trans k4) k1.wf hG4 hb4 hm5 un25 ty3 ti3s z3 rfl rfl (by rw [ti3b]; omega) (by omega)
    refine ⟨_, _, _, m6, e6, n1 - (n5 + 1), less_w hkn, n5 + 1, hkn, inc64 (by omega), rfl, rfl, k1.trans k6, k6, ?_, ?_⟩
    · rw [ids_take hx, ints_snoc]; exact hG6
    · rintro b' e'; cases e'; exact hb6
  · rw [ltI_false] at e
    have hk1 : n5 = n1 := by unfold lenI at e; omega
    subst hk1
    have ht : (pl.run mm l).take n5 = pl.run mm l := List.take_of_length_le (by rw [hr.1]; exact Nat.le_refl _)
    rw [ht] at hG
    refine ints_sort_ok hG (by omega) fun m7 hm7 hG7 => ⟨rfl, ?_⟩
    have k7 : Keep m m7 := by
      rcases hm7 with rfl | ⟨b, ls, hab, rfl⟩
      · exact k2
      · exact k2.wr (Nat.le_trans k1.nx (hb b hab))
    refine h m7 _ _ _ k7 ⟨(hG7.1).trans (Nat.mul_one _), fun i v hv => ?_⟩
    rcases hG7.2 with ⟨rfl, rfl, rfl⟩ | ⟨b, rfl, rfl, _, hR⟩
    · have h8 : ((pl.pick mm l).map (Value.int .i64)).length = 0 * 1 := hG7.1
      have := (List.getElem?_eq_some_iff.1 hv).1
      omega
    · exact ⟨b, 0, rfl, by rw [hR.rd, Nat.zero_add]; exact hv⟩

/-! ## Worst, First -/

theorem zero_E : encE pl.zeroE = [.int .i64 0, .int .i64 0, .bool false] := rfl

theorem worst_ok {mm : Int} {m : Mem} {a : Option Addr} {n c : Nat} {l : List pl.E} {Q : Value → Mem → Prop} (hw : Wf m) (hl : EntsIs m a n l)
    (h : ∀ m', Keep m m' → Q (.tuple #[.agg (encE (pl.worst mm l).1).toArray, .bool (pl.worst mm l).2]) m') : CallW cx 14 [.int .i64 mm, .slice a n c] m Q := by
  apply F14_ok; unfold F14
  rw [mBind_iff]
  generalize hm1 : newO m _ = m1
  have k1 : Keep m m1 := hm1 ▸ (Keep.refl hw).newO
  have n1' : m1.nx = m.nx + 1 := by rw [← hm1]; rfl
  have r1 : Row m1 m.nx [.int .i64 0, .int .i64 0, .bool false] 29 false := hm1 ▸ Row.newO
  refine split_ok k1.wf (hl.keep hw k1) fun m2 a1 n1 c1 a2 n2 c2 k2 hr _ => ⟨_, _, _, _, _, _, rfl, ?_⟩
  have k12 := k1.trans k2
  have r2 : Row m2 m.nx [.int .i64 0, .int .i64 0, .bool false] 29 false := r1.congr (k2.get _ (by omega))
  have okw : ∀ {m' : Mem}, m' = m2 → okW m' m.nx 0 3 := by
    rintro m' rfl
    exact r2.okW (by have := k12.fl; have := hw.1; omega) (by simp)
  have bad : pl.worst mm l = (pl.zeroE, false) → (okW m2 m.nx (0) 3 ∧ (mBind (wr m2 m.nx (0) [.int .i64 (0 : Int), .int .i64 (0 : Int), .bool (false)]) fun m4 => (∃ (xr : Int), rd m4 m.nx (0) = some (.int .i64 (xr)) ∧ (∃ (xr_4 : Int), rd m4 m.nx (1) = some (.int .i64 (xr_4)) ∧ (∃ (br : Bool), rd m4 m.nx (2) = some (.bool (br)) ∧ (Q (.tuple #[.agg #[.int .i64 (xr), .int .i64 (xr_4), .bool (br)], .bool (false)]) m4)))))) := by
    intro e
    refine ⟨okw rfl, ?_⟩
    rw [mBind_iff]
    generalize hm4 : wr m2 m.nx 0 _ = m4
    have r4 : Row m4 m.nx [.int .i64 0, .int .i64 0, .bool false] 29 false := by
      have := r2.wr (o := 0) (vs := [.int .i64 0, .int .i64 0, .bool false]) (by simp)
      rw [hm4] at this; exact this
    refine ⟨0, by rw [r4.rd]; rfl, 0, by rw [r4.rd]; rfl, false, by rw [r4.rd]; rfl, ?_⟩
    have := h m4 (hm4 ▸ k12.wr (Nat.le_refl _))
    rw [e] at this
    exact this
  simp only [joinK]
  rw [splitB_iff]
  refine ⟨fun e => ?_, fun e => ?_⟩
  · rw [eqI_true] at e
    rw [splitB_true]
    refine bad ?_
    have : pl.run mm l = [] := List.eq_nil_of_length_eq_zero (by rw [hr.1]; unfold lenI at e; omega)
    unfold pl.worst; rw [this]; rfl
  · rw [eqI_false] at e
    have hpos : 0 < n1 := by unfold lenI at e; omega
    have hn64 : n1 ≤ 64 := by
      rw [← hr.1]
      by_cases g : pl.Good mm l
      · rw [pl.run_length g]; have := g.len; omega
      · rw [pl.run_bad g]; simp
    have es : subI .i64 (lenI n1) 1 = ((n1 - 1 : Nat) : Int) := by
      unfold lenI; rw [subI_64 (by omega) (by omega)]; omega
    rw [es]
    obtain ⟨x, hx⟩ : ∃ x, (pl.run mm l)[n1 - 1]? = some x := ⟨_, List.getElem?_eq_getElem (by rw [hr.1]; omega)⟩
    have hlast : (pl.run mm l).getLast? = some x := by rw [List.getLast?_eq_getElem?, hr.1]; exact hx
    obtain ⟨b, o, rfl, h0, h1, h2⟩ := hr.2 (n1 - 1) _ hx
    refine ⟨⟨by omega, by omega⟩, ?_⟩
    rw [vPtr_some]
    refine ⟨x.2.2, by rw [Int.toNat_natCast]; exact h2, ?_⟩
    rw [splitB_iff]
    refine ⟨fun e2 => bad ?_, fun e2 => ?_⟩
    · unfold pl.worst; rw [hlast]; simp [e2]
    · refine ⟨⟨by omega, by omega⟩, ?_⟩
      rw [vPtr_some]
      refine ⟨x.1, by rw [Int.toNat_natCast]; exact h0, x.2.1, by rw [Int.toNat_natCast]; exact h1, x.2.2, by rw [Int.toNat_natCast]; exact h2, okw rfl, ?_⟩
      rw [mBind_iff]
      generalize hm4 : wr m2 m.nx 0 _ = m4
      have r4 : Row m4 m.nx [.int .i64 x.1, .int .i64 x.2.1, .bool x.2.2] 29 false := by
        have := r2.wr (o := 0) (vs := [.int .i64 x.1, .int .i64 x.2.1, .bool x.2.2]) (by simp)
        rw [hm4] at this; exact this
      refine ⟨x.1, by rw [r4.rd]; rfl, x.2.1, by rw [r4.rd]; rfl, x.2.2, by rw [r4.rd]; rfl, ?_⟩
      have := h m4 (hm4 ▸ k12.wr (Nat.le_refl _))
      have ew : pl.worst mm l = (x, true) := by unfold pl.worst; rw [hlast]; simp [e2]
      rw [ew] at this
      exact this

theorem first_ok {mm : Int} {m : Mem} {a : Option Addr} {n c : Nat} {l : List pl.E} {Q : Value → Mem → Prop} (hw : Wf m) (hl : EntsIs m a n l)
    (h : ∀ m', Keep m m' → Q (.tuple #[.agg (encE (pl.first mm l).1).toArray, .bool (pl.first mm l).2]) m') : CallW cx 15 [.int .i64 mm, .slice a n c] m Q := by
  apply F15_ok; unfold F15
  rw [mBind_iff]
  generalize hm1 : newO m _ = m1
  have k1 : Keep m m1 := hm1 ▸ (Keep.refl hw).newO
  have n1' : m1.nx = m.nx + 1 := by rw [← hm1]; rfl
  have r1 : Row m1 m.nx [.int .i64 0, .int .i64 0, .bool false] 29 false := hm1 ▸ Row.newO
  refine split_ok k1.wf (hl.keep hw k1) fun m2 a1 n1 c1 a2 n2 c2 k2 _ hr => ⟨_, _, _, _, _, _, rfl, ?_⟩
  have k12 := k1.trans k2
  have r2 : Row m2 m.nx [.int .i64 0, .int .i64 0, .bool false] 29 false := r1.congr (k2.get _ (by omega))
  have okw : okW m2 m.nx 0 3 := r2.okW (by have := k12.fl; have := hw.1; omega) (by simp)
  rw [splitB_iff]
  refine ⟨fun e => ?_, fun e => ?_⟩
  · rw [eqI_true] at e
    refine ⟨okw, ?_⟩
    rw [mBind_iff]
    generalize hm4 : wr m2 m.nx 0 _ = m4
    have r4 : Row m4 m.nx [.int .i64 0, .int .i64 0, .bool false] 29 false := by
      have := r2.wr (o := 0) (vs := [.int .i64 0, .int .i64 0, .bool false]) (by simp)
      rw [hm4] at this; exact this
    refine ⟨0, by rw [r4.rd]; rfl, 0, by rw [r4.rd]; rfl, false, by rw [r4.rd]; rfl, ?_⟩
    have := h m4 (hm4 ▸ k12.wr (Nat.le_refl _))
    have e2 : pl.rest mm l = [] := List.eq_nil_of_length_eq_zero (by rw [hr.1]; unfold lenI at e; omega)
    have ew : pl.first mm l = (pl.zeroE, false) := by unfold pl.first; rw [e2]; rfl
    rw [ew] at this
    exact this
  · rw [eqI_false] at e
    have hpos : 0 < n2 := by unfold lenI at e; omega
    obtain ⟨x, hx⟩ : ∃ x, (pl.rest mm l)[0]? = some x := ⟨_, List.getElem?_eq_getElem (by rw [hr.1]; omega)⟩
    obtain ⟨b, o, rfl, h0, h1, h2⟩ := hr.2 0 _ hx
    refine ⟨⟨by omega, by omega⟩, ?_⟩
    rw [vPtr_some]
    refine ⟨x.1, h0, x.2.1, h1, x.2.2, h2, okw, ?_⟩
    rw [mBind_iff]
    generalize hm4 : wr m2 m.nx 0 _ = m4
    have r4 : Row m4 m.nx [.int .i64 x.1, .int .i64 x.2.1, .bool x.2.2] 29 false := by
      have := r2.wr (o := 0) (vs := [.int .i64 x.1, .int .i64 x.2.1, .bool x.2.2]) (by simp)
      rw [hm4] at this; exact this
    refine ⟨x.1, by rw [r4.rd]; rfl, x.2.1, by rw [r4.rd]; rfl, x.2.2, by rw [r4.rd]; rfl, ?_⟩
    have := h m4 (hm4 ▸ k12.wr (Nat.le_refl _))
    have ew : pl.first mm l = (x, true) := by unfold pl.first; rw [List.head?_eq_getElem?, hx]
    rw [ew] at this
    exact this

end Go.Proofs.Ytmjpkannhbaklaa.vc
