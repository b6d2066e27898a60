/-
  Package note: those that are asked for; two rows alike; a part of a slice that was given; nothing put in.
-/
import Derived.Test.YtdeknemdeijljaaDoorNote
namespace Go.Proofs.YtdeknemdeijljaaDoor.vc
open Go Go.AX
set_option linter.unusedVariables false
set_option linter.unusedSimpArgs false

theorem keepN_more {r : Nat} {L M : List E} : keepN r (keepN r L ++ M) = keepN r (L ++ M) := by
  unfold keepN
  have e : L.drop (L.length - r) ++ M = (L ++ M).drop (L.length - r) := by rw [List.drop_append_of_le_length (by omega)]
  rw [e, List.drop_drop, List.length_drop, List.length_append]
  congr 1
  omega

theorem lost_more {r : Nat} {L M : List E} : (L.length - r) + ((keepN r L ++ M).length - r) = (L ++ M).length - r := by
  rw [List.length_append, keepN_len, List.length_append]
  omega

theorem EvsIs.one {m : Mem} {b : Nat} {x : E} {e : TypeId} {y : Bool} (h : Row m b (encV x) e y) : EvsIs m (some ⟨b, 0, none⟩) 1 [x] :=
  ⟨rfl, fun j v hv => ⟨b, 0, rfl, by rw [h.rd, Nat.zero_add, ← hv]; simp⟩⟩

def andO (x r : Option Bool) : Option Bool := match x with
  | some true => r
  | some false => some false
  | none => none

set_option maxRecDepth 100000 in
theorem eqE_raw (a b c d : Int) (m : Mem) : eqV cx m 40 23 (.agg #[.int .i64 a, .int .i64 b, .int .i64 c, .int .i64 d]) (.agg #[.int .i64 a, .int .i64 b, .int .i64 c, .int .i64 d]) = andO (some (decide (a = a))) (andO (some (decide (b = b))) (andO (some (decide (c = c))) (andO (some (decide (d = d))) (some true)))) := by
  kernel_rfl

theorem eqE (a b c d : Int) (m : Mem) : eqV cx m 40 23 (.agg #[.int .i64 a, .int .i64 b, .int .i64 c, .int .i64 d]) (.agg #[.int .i64 a, .int .i64 b, .int .i64 c, .int .i64 d]) = some true := by
  refine (eqE_raw a b c d m).trans ?_
  simp [andO]

/-- two slices with the same Events -/
theorem same_ok {m : Mem} {a0 a1 : Option Addr} {n0 c0 n1 c1 : Nat} {l : List E} {Q : Value → Mem → Prop} (hw : Wf m) (h0 : EvsIs m a0 n0 l) (h1 : EvsIs m a1 n1 l) (hn : n0 ≤ 1000000)
    (h : ∀ m', Keep m m' → Q (.bool true) m') : CallW cx 16 [.slice a0 n0 c0, .slice a1 n1 c1] m Q := by
  obtain rfl : n0 = n1 := h0.1.symm.trans h1.1
  apply F16_ok; unfold F16
  rw [splitB_iff]
  refine ⟨fun e => by rw [neI_true] at e; exact absurd rfl e, fun _ => ?_⟩
  refine ⟨fun i m1 w => ∃ k : Nat, k ≤ n0 ∧ i = (k : Int) ∧ w = n0 - k ∧ Keep m m1, ⟨n0, 0, Nat.zero_le _, rfl, rfl, Keep.refl hw⟩, ?_⟩
  rintro i m1 w ⟨k, hk, rfl, rfl, k1⟩
  rw [splitB_iff]
  refine ⟨fun e => ?_, fun _ => h m1 k1⟩
  rw [ltI_true] at e
  have hkn : k < n0 := by unfold lenI at e; omega
  rw [mBind_iff]
  generalize hm2 : bump m1 9 = m2
  have k2 : Keep m m2 := hm2 ▸ k1.bump
  obtain ⟨x, hx⟩ : ∃ x, l[k]? = some x := ⟨_, List.getElem?_eq_getElem (by have := h0.1; omega)⟩
  obtain ⟨b, o, rfl, p0, p1, p2, p3⟩ := (h0.keep hw k2).at hx
  obtain ⟨b', o', rfl, q0, q1, q2, q3⟩ := (h1.keep hw k2).at hx
  refine ⟨⟨by omega, by omega⟩, ?_⟩
  rw [vPtr_some, Int.toNat_natCast]
  refine ⟨_, p0, _, p1, _, p2, _, p3, ⟨by omega, by omega⟩, ?_⟩
  rw [vPtr_some]
  refine ⟨_, q0, _, q1, _, q2, _, q3, true, eqE _ _ _ _ _, ?_⟩
  rw [show (!true) = false from rfl, splitB_false]
  exact ⟨n0 - (k + 1), less_w hkn, k + 1, hkn, inc64 (by omega), rfl, k2⟩

theorem filter_next {α : Type} {f : α → Bool} {l : List α} {k : Nat} {x : α} (h : l[k]? = some x) : (l.take (k + 1)).filter f = (l.take k).filter f ++ if f x then [x] else [] := by
  rw [List.take_add_one, h, List.filter_append]
  congr 1
  show [x].filter f = _
  cases e : f x <;> simp [e]

theorem filter_le {f : E → Bool} {l : List E} {k : Nat} : ((l.take k).filter f).length ≤ l.length := by
  have h1 := List.length_filter_le f (l.take k)
  have h2 := List.length_take_le k l
  have h3 := List.length_take_le' k l
  omega

/-- those that are asked for -/
theorem some_ok {s p room lost q k : Nat} {v : Int} {f : E → Bool} {l : List E} {m : Mem} {Q : Value → Mem → Prop} (hw : Wf m) (hN : NoteIs s m p room l lost) (hn : l.length ≤ 10000)
    (hq : rd m q 0 = some (.int .i64 v))
    (hf : ∀ (m1 : Mem) (x : E) (Q : Value → Mem → Prop), Wf m1 → rd m1 q 0 = some (.int .i64 v) → (∀ m', Keep m1 m' → Q (.bool (f x)) m') →
      CallW cx k [.agg #[.int .i64 x.1, .int .i64 x.2.1, .int .i64 x.2.2.1, .int .i64 x.2.2.2], .pointer (some ⟨q, 0, none⟩)] m1 Q)
    (h : ∀ m' a n c, Keep m m' → EvsIs m' a n (l.filter f) → Q (.slice a n c) m') : CallW cx 29 [.pointer (some ⟨p, 0, none⟩), .func (.func k) #[] #[.pointer (some ⟨q, 0, none⟩)]] m Q := by
  obtain ⟨h1, a, n, c, hR, hO⟩ := hN
  have hE := hO.evs
  have hln := hE.1
  subst hln
  apply F29_ok; unfold F29
  rw [vPtr_some]
  refine ⟨a, _, c, hR.rd, ?_⟩
  refine ⟨fun a5 n5 c5 i m1 w => ∃ j : Nat, j ≤ l.length ∧ i = (j : Int) ∧ w = l.length - j ∧ Keep m m1 ∧ OwnE m.nx m1 a5 n5 c5 ((l.take j).filter f), ⟨l.length, 0, Nat.zero_le _, rfl, rfl, Keep.refl hw, OwnE.nil _ _⟩, ?_⟩
  rintro a5 n5 c5 i m1 w ⟨j, hj, rfl, rfl, k1, O1⟩
  rw [splitB_iff]
  refine ⟨fun e => ?_, fun e => ?_⟩
  · rw [ltI_true] at e
    have hjn : j < l.length := by unfold lenI at e; omega
    obtain ⟨x, hx⟩ : ∃ x, l[j]? = some x := ⟨_, List.getElem?_eq_getElem hjn⟩
    obtain ⟨b, o, rfl, p0, p1, p2, p3⟩ := (hE.keep hw k1).at hx
    refine ⟨⟨by omega, by omega⟩, ?_⟩
    rw [vPtr_some, Int.toNat_natCast]
    refine ⟨_, p0, _, p1, _, p2, _, p3, ?_⟩
    rw [mBind_iff]
    generalize hm2 : newO m1 _ = m2
    have k12 : Keep m1 m2 := hm2 ▸ (Keep.refl k1.wf).newO
    have r2 : Row m2 m1.nx [.int .i64 0, .int .i64 0, .int .i64 0, .int .i64 0] 23 false := hm2 ▸ Row.newO
    have fl2 := k12.fl
    have hw1 := k1.wf.1
    refine ⟨r2.okW (by omega) (by simp), ?_⟩
    rw [mBind_iff]
    have r3 : Row (AX.wr m2 m1.nx 0 [.int .i64 x.1, .int .i64 x.2.1, .int .i64 x.2.2.1, .int .i64 x.2.2.2]) m1.nx (encV x) 23 false := r2.wr (o := 0) (vs := encV x) (by simp [encV])
    have k13 : Keep m1 (AX.wr m2 m1.nx 0 [.int .i64 x.1, .int .i64 x.2.1, .int .i64 x.2.2.1, .int .i64 x.2.2.2]) := k12.wr (Nat.le_refl _)
    generalize AX.wr m2 m1.nx 0 [.int .i64 x.1, .int .i64 x.2.1, .int .i64 x.2.2.1, .int .i64 x.2.2.2] = m3 at r3 k13 ⊢
    have k3 : Keep m m3 := k1.trans k13
    refine ⟨x.1, r3.rd, x.2.1, r3.rd, x.2.2.1, r3.rd, x.2.2.2, r3.rd, ?_⟩
    refine hf m3 x _ k3.wf (by rw [rd_congr (k3.get q (hw.rd hq))]; exact hq) fun m4 k4 => ⟨_, rfl, ?_⟩
    have k04 := k3.trans k4
    have O4 := (O1.keep k1.wf k13).keep k3.wf k4
    have r4 := k4.row k3.wf r3
    rw [splitB_iff]
    refine ⟨fun hb => ?_, fun hb => ⟨l.length - (j + 1), less_w hjn, j + 1, hjn, inc64 (by omega), rfl, k04, ?_⟩⟩
    · refine ⟨x.1, r4.rd, x.2.1, r4.rd, x.2.2.1, r4.rd, x.2.2.2, r4.rd, ?_⟩
      rw [mBind_iff]
      generalize hm5 : newO m4 _ = m5
      have k45 : Keep m4 m5 := hm5 ▸ (Keep.refl k04.wf).newO
      have hE5 : EvsIs m5 (some ⟨m4.nx, 0, none⟩) 1 [x] := EvsIs.one (e := 23) (y := false) (hm5 ▸ Row.newO)
      have hfl := filter_le (f := f) (l := l) (k := j)
      have hn5 := O4.evs.1
      obtain ⟨m6, e6, k6, _, O6, _⟩ := app_ok (c1 := 1) (k04.trans k45) hw (O4.keep k04.wf k45) hE5 (by omega) (by omega)
      refine ⟨_, _, _, m6, e6, l.length - (j + 1), less_w hjn, j + 1, hjn, inc64 (by omega), rfl, k6, ?_⟩
      rw [filter_next hx, hb, if_pos rfl]
      have := (k04.trans k45).nx
      exact ⟨O6.1, fun b' e' => by have := O6.2 b' e'; omega⟩
    · rw [filter_next hx, hb, if_neg Bool.false_ne_true, List.append_nil]; exact O4
  · rw [ltI_false] at e
    have hjn : j = l.length := by unfold lenI at e; omega
    subst hjn
    rw [List.take_length] at O1
    exact h m1 _ _ _ k1 O1.evs

theorem since_ok {s p room lost : Nat} {v : Int} {l : List E} {m : Mem} {Q : Value → Mem → Prop} (hw : Wf m) (hN : NoteIs s m p room l lost) (hn : l.length ≤ 10000)
    (h : ∀ m' a n c, Keep m m' → EvsIs m' a n (l.filter fun x => leI v x.1) → Q (.slice a n c) m') : CallW cx 15 [.pointer (some ⟨p, 0, none⟩), .int .i64 v] m Q := by
  apply F15_ok; unfold F15
  rw [mBind_iff]
  generalize hm1 : newO m _ = m1
  have k1 : Keep m m1 := hm1 ▸ (Keep.refl hw).newO
  have r1 : Row m1 m.nx [.int .i64 v] 2 false := hm1 ▸ Row.newO
  refine some_ok (v := v) (f := fun x => leI v x.1) k1.wf (hN.keep hw k1) hn r1.rd (fun m2 x Q hw2 hq hQ => ?_) fun m' a n c k' hE => ⟨_, _, _, rfl, h m' a n c (k1.trans k') hE⟩
  apply F30_ok; unfold F30
  rw [mBind_iff]
  generalize hm3 : newO m2 _ = m3
  have k3 : Keep m2 m3 := hm3 ▸ (Keep.refl hw2).newO
  have r3 : Row m3 m2.nx (encV x) 23 false := hm3 ▸ Row.newO
  refine ⟨x.1, r3.rd, ?_⟩
  rw [vPtr_some]
  exact ⟨v, by rw [rd_congr (k3.get _ (hw2.rd hq))]; exact hq, hQ m3 k3⟩

theorem of_ok {s p room lost : Nat} {v : Int} {l : List E} {m : Mem} {Q : Value → Mem → Prop} (hw : Wf m) (hN : NoteIs s m p room l lost) (hn : l.length ≤ 10000)
    (h : ∀ m' a n c, Keep m m' → EvsIs m' a n (l.filter fun x => eqI x.2.2.1 v) → Q (.slice a n c) m') : CallW cx 17 [.pointer (some ⟨p, 0, none⟩), .int .i64 v] m Q := by
  apply F17_ok; unfold F17
  rw [mBind_iff]
  generalize hm1 : newO m _ = m1
  have k1 : Keep m m1 := hm1 ▸ (Keep.refl hw).newO
  have r1 : Row m1 m.nx [.int .i64 v] 3 false := hm1 ▸ Row.newO
  refine some_ok (v := v) (f := fun x => eqI x.2.2.1 v) k1.wf (hN.keep hw k1) hn r1.rd (fun m2 x Q hw2 hq hQ => ?_) fun m' a n c k' hE => ⟨_, _, _, rfl, h m' a n c (k1.trans k') hE⟩
  apply F31_ok; unfold F31
  rw [mBind_iff]
  generalize hm3 : newO m2 _ = m3
  have k3 : Keep m2 m3 := hm3 ▸ (Keep.refl hw2).newO
  have r3 : Row m3 m2.nx (encV x) 23 false := hm3 ▸ Row.newO
  refine ⟨x.2.2.1, r3.rd, ?_⟩
  rw [vPtr_some]
  exact ⟨v, by rw [rd_congr (k3.get _ (hw2.rd hq))]; exact hq, hQ m3 k3⟩

/-- nothing put into an empty row -/
theorem put0_ok {m0 m : Mem} {p room : Nat} {a1 : Option Addr} {c1 : Nat} {Q : Value → Mem → Prop} (hw0 : Wf m0) (k : Keep m0 m) (hN : NoteIs m0.nx m p room [] 0) (hr : 1 ≤ room) (hr2 : room ≤ 4096)
    (h : ∀ m', Keep m0 m' → NoteIs m0.nx m' p room [] 0 → Q (.tuple #[]) m') : CallW cx 11 [.pointer (some ⟨p, 0, none⟩), .slice a1 0 c1] m Q := by
  obtain ⟨hp, a, n, c, hR, hO⟩ := hN
  have hln : 0 = n := hO.evs.1
  subst hln
  have hc : c = 0 := by
    rcases hO.1.2 with ⟨_, _, h3⟩ | ⟨_, _, h3, _⟩ <;> exact h3
  subst hc
  apply F11_ok; unfold F11
  rw [vPtr_some]
  refine ⟨a, 0, 0, hR.rd, a, 0, 0, m, ?_, ?_⟩
  · unfold appendA
    simp only [un32, ty23, lenV, isRowD]
    rw [ti23s]
    simp only [firstL]
    cases a <;> cases a1 <;> rfl
  rw [vPtr_some]
  have hfl := hw0.1
  have fl1 := k.fl
  refine ⟨hR.okW (by omega) (by simp), ?_⟩
  rw [mBind_iff, mBind_iff]
  generalize hm3 : bump (wr m p (0 + 1) _) 11 = m3
  have k3 : Keep m0 m3 := hm3 ▸ (k.wr hp).bump
  have hR3 : Row m3 p [.int .i64 (room : Int), .slice a 0 0, .int .i64 ((0 : Nat) : Int)] 58 false := by
    have := (hR.wr1 (o := 0 + 1) (v := .slice a 0 0) (by simp)).bump (n := 11)
    rw [hm3] at this; exact this
  have hO3 : OwnE m0.nx m3 a 0 0 [] := hm3 ▸ (hO.wr (p := p) hR : OwnE m0.nx (AX.wr m p (0 + 1) _) _ _ _ _)
  rw [vPtr_some]
  refine ⟨_, _, _, hR3.rd, ?_⟩
  rw [vPtr_some]
  refine ⟨_, hR3.rd, ?_⟩
  rw [sub_room (by omega) hr2, splitB_iff]
  exact ⟨fun e => by rw [ltI_true] at e; omega, fun _ => h _ k3 ⟨hp, _, _, _, hR3, hO3⟩⟩

/-- an argument that can be cut -/
def Cut (m : Mem) (a : Option Addr) (n c : Nat) : Prop := n ≤ c ∧ (a = none ∨ c = 0 ∨ ∃ b o cc k, a = some ⟨b, o, none⟩ ∧ m.hp.get b = some (.ro cc k))

theorem Cut.keep {m m' : Mem} {a : Option Addr} {n c : Nat} (h : Cut m a n c) (hw : Wf m) (k : Keep m m') : Cut m' a n c := by
  obtain ⟨h1, h2 | h2 | ⟨b, o, cc, kk, h3, h4⟩⟩ := h
  · exact ⟨h1, .inl h2⟩
  · exact ⟨h1, .inr (.inl h2)⟩
  · exact ⟨h1, .inr (.inr ⟨b, o, cc, kk, h3, by rw [k.get b (hw.lt h4)]; exact h4⟩)⟩

theorem cut_ok {m : Mem} {a : Option Addr} {n c lo : Nat} {l : List E} (hC : Cut m a n c) (hE : EvsIs m a n l) (hlo : lo ≤ n) :
    ∃ a' c', sliceOp cx m 32 (.slice a n c) (some (.int .i64 (lo : Int))) none none = some (.slice a' (n - lo) c') ∧ EvsIs m a' (n - lo) (l.drop lo) := by
  obtain ⟨hnc, hC⟩ := hC
  have h1 : boundA n none c = some n := by unfold boundA; simp [hnc]
  have h2 : boundA 0 (some (.int .i64 (lo : Int))) n = some lo := bound_lo hlo
  have e0 : n - lo = 0 → l.drop lo = [] := fun e => List.drop_eq_nil_of_le (by have := hE.1; omega)
  have nil : ∀ a', n - lo = 0 → EvsIs m a' (n - lo) (l.drop lo) := fun a' e => by rw [e0 e, e]; exact EvsIs.nil _ _
  cases a with
  | none =>
    have : n = 0 := by
      cases l with
      | nil => exact hE.1.symm
      | cons x r => obtain ⟨b, o, e, _⟩ := hE.2 0 _ rfl; cases e
    refine ⟨none, c - lo, ?_, nil _ (by omega)⟩
    unfold sliceOp
    simp only [un32, sz23, h1, h2]
  | some ad =>
    rcases hC with h3 | h3 | ⟨b, o, cc, k, h3, h4⟩
    · cases h3
    · subst h3
      have hn0 : n = 0 := by omega
      subst hn0
      have hlo0 : lo = 0 := by omega
      subst hlo0
      unfold sliceOp
      simp only [un32, sz23, h1, h2]
      split
      · exact ⟨_, _, rfl, nil _ rfl⟩
      · exact ⟨_, _, rfl, nil _ rfl⟩
    · cases h3
      refine ⟨some ⟨b, o + lo * 4, none⟩, c - lo, ?_, by rw [List.length_drop, hE.1], fun j v hv => ?_⟩
      · unfold sliceOp
        simp only [un32, sz23, h1, h2]
        have hs : sameSize cx m b 4 = true := by
          unfold sameSize
          simp only [h4]
        rw [hs, Nat.ble_eq_true_of_le hnc]
        simp [addA]
      · rw [flat_drop, List.getElem?_drop] at hv
        obtain ⟨b', o', e, h5⟩ := hE.2 _ _ hv
        cases e
        exact ⟨b, _, rfl, by rw [Nat.add_assoc]; exact h5⟩

def Apart (a a' : Option Addr) : Prop := ∀ b, a = some ⟨b, 0, none⟩ → a' ≠ some ⟨b, 0, none⟩
theorem Apart.symm {a a' : Option Addr} (h : Apart a a') : Apart a' a := fun b e e' => h b e' e

theorem OwnE.lt {s : Nat} {m : Mem} {a : Option Addr} {n c b : Nat} {l : List E} (h : OwnE s m a n c l) (hw : Wf m) (e : a = some ⟨b, 0, none⟩) : b < m.nx := by
  rcases h.1.2 with ⟨h1, _⟩ | ⟨b', h1, _, _, h4⟩
  · rw [h1] at e; cases e
  · rw [h1] at e; cases e; exact hw.row h4

theorem push_two {m8 m m' : Mem} {a a2 : Option Addr} {n c n2 c2 : Nat} {S O : List E} {x : E} (hw8 : Wf m8) (k : Keep m8 m) (h1 : OwnE m8.nx m a n c S) (h2 : OwnE m8.nx m a2 n2 c2 O) (ap : Apart a a2) (hn : n ≤ 1000)
    (hm' : newO m (row (encV x) 23 false) = m') : ∃ m'', appendA cx m' [32, 32] [.slice a n c, .slice (some ⟨m.nx, 0, none⟩) 1 1] = some (.slice (some ⟨m'.nx, 0, none⟩) (n + 1) (n + 1), m'') ∧ Keep m8 m'' ∧
      OwnE m8.nx m'' (some ⟨m'.nx, 0, none⟩) (n + 1) (n + 1) (S ++ [x]) ∧ OwnE m8.nx m'' a2 n2 c2 O ∧ Apart (some ⟨m'.nx, 0, none⟩) a2 := by
  have k' : Keep m m' := hm' ▸ (Keep.refl k.wf).newO
  have hE : EvsIs m' (some ⟨m.nx, 0, none⟩) 1 [x] := EvsIs.one (e := 23) (y := false) (hm' ▸ Row.newO)
  have k8 := k.trans k'
  obtain ⟨m'', e, k2, nx2, O2, g2⟩ := app_ok (c1 := 1) k8 hw8 (h1.keep k.wf k') hE (by omega) (by omega)
  have h2' := h2.keep k.wf k'
  have hnx := k8.nx
  refine ⟨m'', e, k2, ⟨O2.1, fun b e => by have := O2.2 b e; omega⟩, ⟨⟨h2'.1.1, ?_⟩, h2.2⟩, fun b e e' => ?_⟩
  · rcases h2'.1.2 with h3 | ⟨b, h3, h4, h5, h6⟩
    · exact .inl h3
    · have hb := h2'.lt k8.wf h3
      refine .inr ⟨b, h3, h4, ?_, h6.congr (g2 b (by omega) fun b' e1 e2 => ?_)⟩
      · rw [k2.fl]; rw [k8.fl] at h5; exact h5
      · subst e2; exact ap b e1 h3
  · cases e
    have := h2'.lt k8.wf e'
    omega

end Go.Proofs.YtdeknemdeijljaaDoor.vc
