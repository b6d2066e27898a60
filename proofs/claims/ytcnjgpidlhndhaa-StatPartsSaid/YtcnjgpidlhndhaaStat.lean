/-
  Package stat: what is known of one, and what its functions do with it.
-/
import Derived.Test.YtcnjgpidlhndhaaVc
import Derived.Test.YtcnjgpidlhndhaaAxHeap
import Derived.Test.YtcnjgpidlhndhaaAxLaw
namespace Go.Proofs.Ytcnjgpidlhndhaa.vc
open Go Go.AX
set_option linter.unusedVariables false
set_option linter.unusedSimpArgs false

structure Own where
  (rel don abo wai tur gra dea gat wak opn wor sum : Int)
  since : Int → Option Int
  times : List Int

def Own.cells (X : Own) (r : Nat) (a : Option Addr) (n c : Nat) : List Value :=
  [.int .i64 X.rel, .int .i64 X.don, .int .i64 X.abo, .int .i64 X.wai, .int .i64 X.tur, .int .i64 X.gra, .int .i64 X.dea, .int .i64 X.gat, .int .i64 X.wak, .int .i64 X.opn, .int .i64 X.wor, .int .i64 X.sum, .map (some r), .slice a n c]

abbrev Lab := Nat → Nat × Int × Nat

structure OwnAt (m : Mem) (lab : Lab) (q : Nat) (who : Int) (b : Nat) (X : Own) (r : Nat) (a : Option Addr) (n c : Nat) : Prop where
  row : Row m b (X.cells r a n c) 47 false
  map : IMap m r .i64 fun k => (X.since k).map (.int .i64 ·)
  grow : Grow m a n c 1 2 (X.times.map (.int .i64 ·))
  flb : m.fl ≤ b
  flr : m.fl ≤ r
  lb : lab b = (q, who, 0)
  lr : lab r = (q, who, 1)
  lt : ∀ tb, a = some ⟨tb, 0, none⟩ → lab tb = (q, who, 2)

structure Step (m : Mem) (lab : Lab) (m' : Mem) (lab' : Lab) (q : Nat) (who : Int) : Prop where
  wf : Wf m'
  nx : m.nx ≤ m'.nx
  fl : m'.fl = m.fl
  labs : ∀ b, b < m.nx → lab' b = lab b
  get : ∀ b, b < m.nx → (lab b).1 ≠ q ∨ (lab b).2.1 ≠ who → m'.hp.get b = m.hp.get b

theorem mk40 (n : Int) : AX.mapKey cx 40 (.int .i64 n) = some (.int .i64, 43) := by kernel_rfl
theorem z43 : zeroT cx 43 = some (.pointer none) := by kernel_rfl
theorem mk44 (n : Int) : AX.mapKey cx 44 (.int .i64 n) = some (.int .i64, 2) := by kernel_rfl
theorem z2 : zeroT cx 2 = some (.int .i64 0) := by kernel_rfl
theorem un45 : cx.un.get 45 = some (.slice 2) := by kernel_rfl
noncomputable def ti2 : TypeInfo := match cx.ty.get 2 with | some i => i | none => default
theorem ty2 : cx.ty.get 2 = some ti2 := by kernel_rfl
theorem ti2s : ti2.size = 1 := by kernel_rfl
theorem ti2b : ti2.bytes = 8 := by kernel_rfl

def Own.done (X : Own) (at' n : Int) : Own := match X.since n with
  | none => X
  | some t => if at' < t then X else
    { X with times := X.times ++ [subI .i64 at' t], wor := mxI X.wor (subI .i64 at' t), sum := if subI .i64 4611686018427387904 X.sum < subI .i64 at' t then 4611686018427387904 else addI .i64 X.sum (subI .i64 at' t) }

theorem OwnAt.bt {m : Mem} {lab : Lab} {q : Nat} {who : Int} {b : Nat} {X : Own} {r : Nat} {a : Option Addr} {n c : Nat} (hw : Wf m) (h : OwnAt m lab q who b X r a n c) : ∀ tb, a = some ⟨tb, 0, none⟩ → tb < m.nx := by
  rintro tb rfl
  rcases h.grow.2 with ⟨h1, _⟩ | ⟨b', h1, _, _, h2⟩
  · cases h1
  · cases h1; exact hw.row h2

theorem OwnAt.keep {m m' : Mem} {lab lab' : Lab} {q : Nat} {who : Int} {b : Nat} {X : Own} {r : Nat} {a : Option Addr} {n c : Nat} (hw : Wf m) (h : OwnAt m lab q who b X r a n c) (hfl : m'.fl = m.fl)
    (hg : ∀ b, b < m.nx → (lab b).1 = q → (lab b).2.1 = who → m'.hp.get b = m.hp.get b) (hl : ∀ b, b < m.nx → lab' b = lab b) : OwnAt m' lab' q who b X r a n c := by
  have hb := hw.row h.row
  have hr := h.map.lt hw
  refine ⟨h.row.congr (hg b hb (by rw [h.lb]) (by rw [h.lb])), h.map.congr (hg r hr (by rw [h.lr]) (by rw [h.lr])), ⟨h.grow.1, ?_⟩, by rw [hfl]; exact h.flb, by rw [hfl]; exact h.flr, (hl b hb).trans h.lb, (hl r hr).trans h.lr, fun tb e => (hl tb (h.bt hw tb e)).trans (h.lt tb e)⟩
  rcases h.grow.2 with h1 | ⟨tb, h1, h2, h3, h4⟩
  · exact .inl h1
  · exact .inr ⟨tb, h1, h2, by rw [hfl]; exact h3, h4.congr (hg tb (hw.row h4) (by rw [h.lt tb h1]) (by rw [h.lt tb h1]))⟩

theorem done_ok {m : Mem} {lab : Lab} {q : Nat} {who : Int} {b : Nat} {X : Own} {r : Nat} {a : Option Addr} {n c : Nat} {e0 e1 e2 e3 : Int} {Q : Value → Mem → Prop} (hw : Wf m) (h : OwnAt m lab q who b X r a n c) (hl : X.times.length ≤ 1000000)
    (hQ : ∀ m' lab' a' n' c', OwnAt m' lab' q who b (X.done e0 e3) r a' n' c' → Step m lab m' lab' q who → Q (.tuple #[]) m') :
    CallW cx 17 [.pointer (some ⟨b, 0, none⟩), .agg #[.int .i64 e0, .int .i64 e1, .int .i64 e2, .int .i64 e3]] m Q := by
  apply F17_ok
  have hb : b < m.nx := hw.row h.row
  have hr : r < m.nx := h.map.lt hw
  unfold F17
  simp only [mBind_iff, vPtr_some, joinK, rd_bump, Nat.zero_add]
  generalize hm1 : newO m (row [Value.int IntKind.i64 e0, Value.int IntKind.i64 e1, Value.int IntKind.i64 e2, Value.int IntKind.i64 e3] 29 false) = m1
  have hw1 : Wf m1 := hm1 ▸ hw.newO
  have hnx1 : m1.nx = m.nx + 1 := by rw [← hm1]; rfl
  have hfl1 : m1.fl = m.fl := by rw [← hm1]; rfl
  have g1 : ∀ b, b < m.nx → m1.hp.get b = m.hp.get b := fun b hb => by rw [← hm1, newO_get, if_neg (by omega)]
  have hR1 : Row m1 b (X.cells r a n c) 47 false := h.row.congr (g1 b hb)
  have hE1 : Row m1 m.nx [Value.int IntKind.i64 e0, Value.int IntKind.i64 e1, Value.int IntKind.i64 e2, Value.int IntKind.i64 e3] 29 false := hm1 ▸ Row.newO
  have hM1 : IMap (bump m1 12) r .i64 fun k => (X.since k).map (.int .i64 ·) := h.map.congr (g1 r hr)
  refine ⟨some r, hR1.rd.trans rfl, e3, hE1.rd.trans rfl, ?_⟩
  have hlook := hM1.look (mk44 e3) (ok := true) z2
  have step0 : ∀ m' , Wf m' → m.nx ≤ m'.nx → m'.fl = m.fl → (∀ b, b < m.nx → m'.hp.get b = m.hp.get b) → Step m lab m' lab q who := fun m' a b c d => ⟨a, b, c, fun _ _ => rfl, fun b hb _ => d b hb⟩
  have keep0 : OwnAt (bump m1 12) lab q who b X r a n c := h.keep hw hfl1 (fun b hb _ _ => g1 b hb) (fun _ _ => rfl)
  have st0 : Step m lab (bump m1 12) lab q who := step0 _ hw1.bump (by simp [hnx1]; omega) (by simp [hfl1]) g1
  cases hs : X.since e3 with
  | none =>
    rw [hs] at hlook
    refine ⟨0, false, hlook, ?_⟩
    have hd : X.done e0 e3 = X := by unfold Own.done; rw [hs]
    exact hQ _ lab a n c (by rw [hd]; exact keep0) st0
  | some t =>
    rw [hs] at hlook
    refine ⟨t, true, hlook, ?_⟩
    show ∃ x22, _
    refine ⟨e0, hE1.rd.trans rfl, ?_⟩
    rw [splitB_iff]
    constructor
    · intro hlt
      rw [ltI_true] at hlt
      have hd : X.done e0 e3 = X := by unfold Own.done; rw [hs]; simp only [if_pos hlt]
      exact hQ _ lab a n c (by rw [hd]; exact keep0) st0
    · intro hlt
      rw [ltI_false] at hlt
      refine ⟨e0, hE1.rd.trans rfl, a, n, c, hR1.rd.trans rfl, ?_⟩
      generalize hm4 : newO (bump m1 12) (row [Value.int IntKind.i64 (subI IntKind.i64 e0 t)] 2 false) = m4
      have hnx4 : m4.nx = m.nx + 14 := by rw [← hm4]; simp [hnx1]
      have hfl4 : m4.fl = m.fl := by rw [← hm4]; simp [hfl1]
      have g4 : ∀ b, b < m.nx → m4.hp.get b = m.hp.get b := fun b hb => by rw [← hm4, newO_get, if_neg (by simp [hnx1]; omega)]; exact g1 b hb
      have hw4 : Wf m4 := hm4 ▸ hw1.bump.newO
      have hT4 : Row m4 (bump m1 12).nx [Value.int IntKind.i64 (subI IntKind.i64 e0 t)] 2 false := hm4 ▸ Row.newO
      have hO4 : OwnAt m4 lab q who b X r a n c := h.keep hw hfl4 (fun b hb _ _ => g4 b hb) (fun _ _ => rfl)
      obtain ⟨m5, h5, hnx5, hfl5, hR5, g5⟩ := append_grow hO4.grow un45 un45 rfl ty2 ti2s z2 rfl (by omega) (x := .slice (some ⟨(bump m1 12).nx, 0, none⟩) 1 1) rfl (hT4.rowAt (k := 1) (by simp)) rfl rfl (by omega) (by
        rw [ti2b]
        have := hO4.grow.1
        simp at this
        omega) (by have := hO4.grow.1; simp at this; omega)
      refine ⟨some ⟨m4.nx, 0, none⟩, n + 1, n + 1, m5, h5, ?_⟩
      have gb : ∀ b', b' < m.nx → (∀ tb, a = some ⟨tb, 0, none⟩ → b' ≠ tb) → m5.hp.get b' = m.hp.get b' := fun b' hb' ht => (g5 b' (by omega) ht).trans (g4 b' hb')
      have hbt : ∀ tb, a = some ⟨tb, 0, none⟩ → b ≠ tb := fun tb e e' => by have := h.lt tb e; rw [← e', h.lb] at this; simp at this
      have hrt : ∀ tb, a = some ⟨tb, 0, none⟩ → r ≠ tb := fun tb e e' => by have := h.lt tb e; rw [← e', h.lr] at this; simp at this
      have hbr : r ≠ b := fun e => by have := h.lr; rw [e, h.lb] at this; simp at this
      have hR5b : Row m5 b (X.cells r a n c) 47 false := h.row.congr (gb b hb hbt)
      have hw5 : Wf m5 := ⟨by rw [hfl5, hnx5, hfl4]; have := hw.1; omega, fun b' hb' => by rw [hnx5] at hb'; rw [g5 b' (by omega) (fun tb e e' => by have := h.bt hw tb e; omega), hw4.2 b' (by omega)]⟩
      have hflb : m5.fl ≤ b := by rw [hfl5, hfl4]; exact h.flb
      have ok13 : okW m5 b 13 1 := hR5b.okW hflb (by simp [Own.cells])
      refine ⟨ok13, ?_⟩
      generalize hm6 : AX.wr m5 b 13 [Value.slice (some ⟨m4.nx, 0, none⟩) (n + 1) (n + 1)] = m6
      have hR6 : Row m6 b _ 47 false := hm6 ▸ hR5b.wr1 (o := 13) (v := Value.slice (some ⟨m4.nx, 0, none⟩) (n + 1) (n + 1)) (by simp [Own.cells])
      have hw6 : Wf m6 := hm6 ▸ hw5.wr
      have hfl6 : m6.fl = m5.fl := by rw [← hm6]; simp
      refine ⟨X.wor, hR6.rd.trans rfl, hR6.okW (by rw [hfl6]; exact hflb) (by simp [Own.cells]), ?_⟩
      generalize hm7 : AX.wr m6 b 10 [Value.int IntKind.i64 (mxI X.wor (subI IntKind.i64 e0 t))] = m7
      have hR7 : Row m7 b _ 47 false := hm7 ▸ hR6.wr1 (o := 10) (v := Value.int IntKind.i64 (mxI X.wor (subI IntKind.i64 e0 t))) (by simp [Own.cells])
      have hw7 : Wf m7 := hm7 ▸ hw6.wr
      have hfl7 : m7.fl = m6.fl := by rw [← hm7]; simp
      refine ⟨X.sum, hR7.rd.trans rfl, ?_⟩
      have g7 : ∀ b', b' ≠ b → m7.hp.get b' = m5.hp.get b' := fun b' hb' => by rw [← hm7, wr_get hb', ← hm6, wr_get hb']
      have nx7 : m7.nx = m.nx + 15 := by rw [← hm7, ← hm6]; simp [hnx5, hnx4]
      have fin : ∀ v m8, AX.wr m7 b 11 [Value.int IntKind.i64 v] = m8 → X.done e0 e3 = { X with times := X.times ++ [subI .i64 e0 t], wor := mxI X.wor (subI .i64 e0 t), sum := v } → Q (Value.tuple #[]) m8 := by
        intro v m8 hm8 hd
        have hR8 : Row m8 b _ 47 false := hm8 ▸ hR7.wr1 (o := 11) (v := Value.int IntKind.i64 v) (by simp [Own.cells])
        have hw8 : Wf m8 := hm8 ▸ hw7.wr
        have hfl8 : m8.fl = m.fl := by rw [← hm8]; simp [hfl7, hfl6, hfl5, hfl4]
        have g8 : ∀ b', b' ≠ b → m8.hp.get b' = m5.hp.get b' := fun b' hb' => by rw [← hm8, wr_get hb', g7 b' hb']
        have nx8 : m8.nx = m.nx + 15 := by rw [← hm8]; simp [nx7]
        have ho : OwnAt m8 (fun b' => if b' = m4.nx then (q, who, 2) else lab b') q who b (X.done e0 e3) r (some ⟨m4.nx, 0, none⟩) (n + 1) (n + 1) := by
          rw [hd]
          refine ⟨hR8, ?_, ?_, by rw [hfl8]; exact h.flb, by rw [hfl8]; exact h.flr, ?_, ?_, ?_⟩
          · exact h.map.congr ((g8 r hbr).trans (gb r hr hrt))
          · refine ⟨?_, .inr ⟨m4.nx, rfl, rfl, ?_, ?_⟩⟩
            · have := hO4.grow.1; simp at this ⊢; omega
            · rw [hfl8]; have := hw.1; omega
            · have := hR5.congr (g8 m4.nx (by omega))
              simpa using this
          · simp only [if_neg (show ¬ b = m4.nx by omega)]; exact h.lb
          · simp only [if_neg (show ¬ r = m4.nx by omega)]; exact h.lr
          · intro tb e; cases e; simp
        refine hQ m8 _ _ _ _ ho ⟨hw8, by omega, hfl8, ?_, ?_⟩
        · intro b' hb'; simp only [if_neg (show ¬ b' = m4.nx by omega)]
        · intro b' hb' hne
          have n1 : b' ≠ b := fun e => by rw [e, h.lb] at hne; simp at hne
          have n2 : ∀ tb, a = some ⟨tb, 0, none⟩ → b' ≠ tb := fun tb e e' => by rw [e', h.lt tb e] at hne; simp at hne
          rw [g8 b' n1, gb b' hb' n2]
      rw [splitB_iff]
      constructor
      · intro hlt2
        rw [ltI_true] at hlt2
        refine ⟨hR7.okW (by rw [hfl7, hfl6]; exact hflb) (by simp [Own.cells]), fin _ _ rfl ?_⟩
        unfold Own.done; rw [hs]; simp only [if_neg (show ¬ e0 < t by omega), if_pos hlt2]
      · intro hlt2
        rw [ltI_false] at hlt2
        refine ⟨X.sum, hR7.rd.trans rfl, hR7.okW (by rw [hfl7, hfl6]; exact hflb) (by simp [Own.cells]), fin _ _ rfl ?_⟩
        unfold Own.done; rw [hs]; simp only [if_neg (show ¬ e0 < t by omega), if_neg (show ¬ subI .i64 4611686018427387904 X.sum < subI .i64 e0 t by omega)]

theorem OwnAt.set {m : Mem} {lab : Lab} {q : Nat} {who : Int} {b : Nat} {X X' : Own} {r : Nat} {a : Option Addr} {n c o : Nat} {v : Value} (h : OwnAt m lab q who b X r a n c) (hc : X'.cells r a n c = (X.cells r a n c).set o v)
    (hs : X'.since = X.since) (ht : X'.times = X.times) (ho : o < 14) : OwnAt (AX.wr m b o [v]) lab q who b X' r a n c := by
  have hbr : r ≠ b := fun e => by have := h.lr; rw [e, h.lb] at this; simp at this
  refine ⟨hc ▸ h.row.wr1 (by simpa [Own.cells] using ho), ?_, ⟨by rw [ht]; exact h.grow.1, ?_⟩, by simpa using h.flb, by simpa using h.flr, h.lb, h.lr, h.lt⟩
  · rw [hs]; exact h.map.congr (wr_get hbr)
  · rcases h.grow.2 with h1 | ⟨tb, h1, h2, h3, h4⟩
    · exact .inl h1
    · exact .inr ⟨tb, h1, h2, by simpa using h3, by rw [ht]; exact h4.apart (fun e => by have := h.lt tb h1; rw [e, h.lb] at this; simp at this)⟩

theorem OwnAt.ok {m : Mem} {lab : Lab} {q : Nat} {who : Int} {b : Nat} {X : Own} {r : Nat} {a : Option Addr} {n c o : Nat} (h : OwnAt m lab q who b X r a n c) (ho : o < 14) : AX.okW m b o 1 :=
  h.row.okW h.flb (by simp [Own.cells]; omega)

theorem Step.refl {m : Mem} {lab : Lab} {q : Nat} {who : Int} (hw : Wf m) : Step m lab m lab q who := ⟨hw, Nat.le_refl _, rfl, fun _ _ => rfl, fun _ _ _ => rfl⟩
theorem Step.trans {m m1 m2 : Mem} {lab lab1 lab2 : Lab} {q : Nat} {who : Int} (h : Step m lab m1 lab1 q who) (k : Step m1 lab1 m2 lab2 q who) : Step m lab m2 lab2 q who :=
  ⟨k.wf, Nat.le_trans h.nx k.nx, k.fl.trans h.fl, fun b hb => (k.labs b (Nat.lt_of_lt_of_le hb h.nx)).trans (h.labs b hb), fun b hb hn => (k.get b (Nat.lt_of_lt_of_le hb h.nx) (by rw [h.labs b hb]; exact hn)).trans (h.get b hb hn)⟩
theorem Step.newO {m m1 : Mem} {lab lab1 : Lab} {q : Nat} {who : Int} {ob : AObj} (h : Step m lab m1 lab1 q who) : Step m lab (AX.newO m1 ob) lab1 q who :=
  h.trans ⟨h.wf.newO, Nat.le_succ _, rfl, fun _ _ => rfl, fun b hb _ => by rw [newO_get, if_neg (by omega)]⟩
theorem Step.bump {m m1 : Mem} {lab lab1 : Lab} {q : Nat} {who : Int} {n : Nat} (h : Step m lab m1 lab1 q who) : Step m lab (AX.bump m1 n) lab1 q who :=
  h.trans ⟨h.wf.bump, Nat.le_add_right _ _, rfl, fun _ _ => rfl, fun b hb _ => rfl⟩
theorem Step.wr {m m1 : Mem} {lab lab1 : Lab} {q : Nat} {who : Int} {b o : Nat} {l : List Value} (h : Step m lab m1 lab1 q who) (hb : (lab1 b).1 = q ∧ (lab1 b).2.1 = who) : Step m lab (AX.wr m1 b o l) lab1 q who :=
  h.trans ⟨h.wf.wr, by simp, by simp, fun _ _ => rfl, fun b' hb' hn => wr_get (fun e => by rw [e, hb.1, hb.2] at hn; simp at hn)⟩

def Own.put (X : Own) (at' k n : Int) : Own :=
  if k = 1 then { X with rel := addI .i64 X.rel 1, opn := addI .i64 X.opn 1, since := fun j => if j = n then some at' else X.since j }
  else if k = 2 then Own.done { X with don := addI .i64 X.don 1, opn := mxI (subI .i64 X.opn 1) 0 } at' n
  else if k = 3 then { X with abo := addI .i64 X.abo 1, opn := mxI (subI .i64 X.opn 1) 0 }
  else if k = 4 then { X with wai := addI .i64 X.wai 1 }
  else if k = 5 then { X with tur := addI .i64 X.tur 1 }
  else if k = 6 then { X with gra := addI .i64 X.gra 1 }
  else if k = 7 then { X with dea := addI .i64 X.dea 1 }
  else if k = 8 then { X with gat := addI .i64 X.gat 1 }
  else if k = 9 then { X with wak := addI .i64 X.wak 1 }
  else X

theorem put_ok {m : Mem} {lab : Lab} {q : Nat} {who : Int} {b : Nat} {X : Own} {r : Nat} {a : Option Addr} {n c : Nat} {e0 e1 e2 e3 : Int} {Q : Value → Mem → Prop} (hw : Wf m) (h : OwnAt m lab q who b X r a n c) (hl : X.times.length ≤ 1000000)
    (hQ : ∀ m' lab' a' n' c', OwnAt m' lab' q who b (X.put e0 e1 e3) r a' n' c' → Step m lab m' lab' q who → Q (.tuple #[]) m') :
    CallW cx 14 [.pointer (some ⟨b, 0, none⟩), .agg #[.int .i64 e0, .int .i64 e1, .int .i64 e2, .int .i64 e3]] m Q := by
  apply F14_ok
  have hb : b < m.nx := hw.row h.row
  unfold F14
  simp only [mBind_iff, vPtr_some, joinK, rd_bump, Nat.zero_add]
  generalize hm1 : AX.newO m (row [Value.int IntKind.i64 e0, Value.int IntKind.i64 e1, Value.int IntKind.i64 e2, Value.int IntKind.i64 e3] 29 false) = m1
  have st1 : Step m lab m1 lab q who := hm1 ▸ (Step.refl hw).newO
  have hO1 : OwnAt m1 lab q who b X r a n c := h.keep hw st1.fl (fun b hb _ _ => by rw [← hm1, newO_get, if_neg (by omega)]) (fun _ _ => rfl)
  have hE1 : Row m1 m.nx [Value.int IntKind.i64 e0, Value.int IntKind.i64 e1, Value.int IntKind.i64 e2, Value.int IntKind.i64 e3] 29 false := hm1 ▸ Row.newO
  have hlb : (lab b).1 = q ∧ (lab b).2.1 = who := by rw [h.lb]; exact ⟨rfl, rfl⟩
  have simp1 : ∀ {o : Nat} {v : Value} {X' : Own}, X'.cells r a n c = (X.cells r a n c).set o v → X'.since = X.since → X'.times = X.times → o < 14 → X.put e0 e1 e3 = X' → Q (.tuple #[]) (AX.wr m1 b o [v]) := by
    intro o v X' hc hs ht ho hp
    exact hQ _ lab a n c (by rw [hp]; exact hO1.set hc hs ht ho) (st1.wr hlb)
  refine ⟨e1, hE1.rd.trans rfl, ?_⟩
  rw [splitB_iff]
  refine ⟨fun hk => ?_, fun hk => ?_⟩
  · rw [eqI_true] at hk
    refine ⟨X.rel, hO1.row.rd.trans rfl, hO1.ok (by omega), ?_⟩
    have hO2 : OwnAt _ lab q who b { X with rel := addI .i64 X.rel 1 } r a n c := hO1.set (o := 0) (v := .int .i64 (addI .i64 X.rel 1)) rfl rfl rfl (by omega)
    refine ⟨X.opn, hO2.row.rd.trans rfl, hO2.ok (by omega), ?_⟩
    have hO3 : OwnAt _ lab q who b { X with rel := addI .i64 X.rel 1, opn := addI .i64 X.opn 1 } r a n c := hO2.set (o := 9) (v := .int .i64 (addI .i64 X.opn 1)) rfl rfl rfl (by omega)
    have st3 := ((st1.wr (o := 0) (l := [.int .i64 (addI .i64 X.rel 1)]) hlb).wr (o := 9) (l := [.int .i64 (addI .i64 X.opn 1)]) hlb)
    have hE3 := (hE1.apart (b' := b) (o := 0) (vs := [.int .i64 (addI .i64 X.rel 1)]) (by omega)).apart (b' := b) (o := 9) (vs := [.int .i64 (addI .i64 X.opn 1)]) (by omega)
    refine ⟨some r, hO3.row.rd.trans rfl, e3, hE3.rd.trans rfl, e0, hE3.rd.trans rfl, ?_⟩
    obtain ⟨m5, h5, hM5, hnx5, hfl5, g5⟩ := (hO3.map.congr (m' := AX.bump (AX.wr (AX.wr m1 b 0 [Value.int IntKind.i64 (addI IntKind.i64 X.rel 1)]) b 9 [Value.int IntKind.i64 (addI IntKind.i64 X.opn 1)]) 9) rfl).update (by simpa using hO3.flr) (mk44 e3) (.int .i64 e0)
    refine ⟨m5, h5, ?_⟩
    have stb := st3.bump (n := 9)
    have hr3 := hO3.map.lt st3.wf
    have hr4 : r < (AX.bump (AX.wr (AX.wr m1 b 0 [Value.int IntKind.i64 (addI IntKind.i64 X.rel 1)]) b 9 [Value.int IntKind.i64 (addI IntKind.i64 X.opn 1)]) 9).nx := by simp at hr3 ⊢; omega
    have st5 : Step m lab m5 lab q who := stb.trans ⟨stb.wf.at hr4 hnx5 hfl5 g5, by omega, hfl5, fun _ _ => rfl, fun b' hb' hn => g5 b' (fun e => by rw [e, h.lr] at hn; simp at hn)⟩
    refine hQ m5 lab a n c ?_ st5
    have hp : X.put e0 e1 e3 = { X with rel := addI .i64 X.rel 1, opn := addI .i64 X.opn 1, since := fun j => if j = e3 then some e0 else X.since j } := by unfold Own.put; rw [if_pos hk]
    rw [hp]
    have hbr : b ≠ r := fun e => by have := h.lb; rw [e, h.lr] at this; simp at this
    refine ⟨hO3.row.congr (g5 b hbr), ?_, ⟨hO3.grow.1, ?_⟩, by rw [hfl5]; simpa using hO3.flb, by rw [hfl5]; simpa using hO3.flr, h.lb, h.lr, h.lt⟩
    · have : (fun k => Option.map (fun x => Value.int IntKind.i64 x) (if k = e3 then some e0 else X.since k)) = updI (fun k => Option.map (fun x => Value.int IntKind.i64 x) (X.since k)) e3 (.int .i64 e0) := by
        funext k
        unfold updI
        by_cases hk : k = e3
        · rw [if_pos hk, if_pos hk]; rfl
        · rw [if_neg hk, if_neg hk]
      show IMap m5 r .i64 (fun k => Option.map (fun x => Value.int IntKind.i64 x) (if k = e3 then some e0 else X.since k))
      rw [this]
      exact hM5
    · rcases hO3.grow.2 with h1 | ⟨tb, h1, h2, h3, h4⟩
      · exact .inl h1
      · exact .inr ⟨tb, h1, h2, by rw [hfl5]; simpa using h3, h4.congr (g5 tb (fun e => by have := h.lt tb h1; rw [e, h.lr] at this; simp at this))⟩
  rw [eqI_false] at hk
  rw [splitB_iff]
  refine ⟨fun hk2 => ?_, fun hk2 => ?_⟩
  · rw [eqI_true] at hk2
    refine ⟨X.don, hO1.row.rd.trans rfl, hO1.ok (by omega), ?_⟩
    have hO2 : OwnAt _ lab q who b { X with don := addI .i64 X.don 1 } r a n c := hO1.set (o := 1) (v := .int .i64 (addI .i64 X.don 1)) rfl rfl rfl (by omega)
    refine ⟨X.opn, hO2.row.rd.trans rfl, hO2.ok (by omega), ?_⟩
    have hO3 : OwnAt _ lab q who b { X with don := addI .i64 X.don 1, opn := mxI (subI .i64 X.opn 1) 0 } r a n c := hO2.set (o := 9) (v := .int .i64 (mxI (subI .i64 X.opn 1) 0)) rfl rfl rfl (by omega)
    have st3 := ((st1.wr (o := 1) (l := [.int .i64 (addI .i64 X.don 1)]) hlb).wr (o := 9) (l := [.int .i64 (mxI (subI .i64 X.opn 1) 0)]) hlb)
    have hE3 := (hE1.apart (b' := b) (o := 1) (vs := [.int .i64 (addI .i64 X.don 1)]) (by omega)).apart (b' := b) (o := 9) (vs := [.int .i64 (mxI (subI .i64 X.opn 1) 0)]) (by omega)
    refine ⟨e0, hE3.rd.trans rfl, e1, hE3.rd.trans rfl, e2, hE3.rd.trans rfl, e3, hE3.rd.trans rfl, ?_⟩
    refine done_ok st3.wf hO3 hl ?_
    intro m' lab' a' n' c' hO' st'
    have hp : X.put e0 e1 e3 = Own.done { X with don := addI .i64 X.don 1, opn := mxI (subI .i64 X.opn 1) 0 } e0 e3 := by unfold Own.put; rw [if_neg hk, if_pos hk2]
    exact ⟨rfl, hQ m' lab' a' n' c' (by rw [hp]; exact hO') (st3.trans st')⟩
  rw [eqI_false] at hk2
  rw [splitB_iff]
  refine ⟨fun hk3 => ?_, fun hk3 => ?_⟩
  · rw [eqI_true] at hk3
    refine ⟨X.abo, hO1.row.rd.trans rfl, hO1.ok (by omega), ?_⟩
    have hO2 : OwnAt _ lab q who b { X with abo := addI .i64 X.abo 1 } r a n c := hO1.set (o := 2) (v := .int .i64 (addI .i64 X.abo 1)) rfl rfl rfl (by omega)
    refine ⟨X.opn, hO2.row.rd.trans rfl, hO2.ok (by omega), ?_⟩
    have hO3 : OwnAt _ lab q who b { X with abo := addI .i64 X.abo 1, opn := mxI (subI .i64 X.opn 1) 0 } r a n c := hO2.set (o := 9) (v := .int .i64 (mxI (subI .i64 X.opn 1) 0)) rfl rfl rfl (by omega)
    exact hQ _ lab a n c (by unfold Own.put; rw [if_neg hk, if_neg hk2, if_pos hk3]; exact hO3) ((st1.wr hlb).wr hlb)
  rw [eqI_false] at hk3
  rw [splitB_iff]
  refine ⟨fun hk4 => ?_, fun hk4 => ?_⟩
  · rw [eqI_true] at hk4
    exact ⟨X.wai, hO1.row.rd.trans rfl, hO1.ok (by omega), simp1 (X' := { X with wai := addI .i64 X.wai 1 }) rfl rfl rfl (by omega) (by simp [Own.put, hk4])⟩
  rw [eqI_false] at hk4
  rw [splitB_iff]
  refine ⟨fun hk5 => ?_, fun hk5 => ?_⟩
  · rw [eqI_true] at hk5
    exact ⟨X.tur, hO1.row.rd.trans rfl, hO1.ok (by omega), simp1 (X' := { X with tur := addI .i64 X.tur 1 }) rfl rfl rfl (by omega) (by simp [Own.put, hk5])⟩
  rw [eqI_false] at hk5
  rw [splitB_iff]
  refine ⟨fun hk6 => ?_, fun hk6 => ?_⟩
  · rw [eqI_true] at hk6
    exact ⟨X.gra, hO1.row.rd.trans rfl, hO1.ok (by omega), simp1 (X' := { X with gra := addI .i64 X.gra 1 }) rfl rfl rfl (by omega) (by simp [Own.put, hk6])⟩
  rw [eqI_false] at hk6
  rw [splitB_iff]
  refine ⟨fun hk7 => ?_, fun hk7 => ?_⟩
  · rw [eqI_true] at hk7
    exact ⟨X.dea, hO1.row.rd.trans rfl, hO1.ok (by omega), simp1 (X' := { X with dea := addI .i64 X.dea 1 }) rfl rfl rfl (by omega) (by simp [Own.put, hk7])⟩
  rw [eqI_false] at hk7
  rw [splitB_iff]
  refine ⟨fun hk8 => ?_, fun hk8 => ?_⟩
  · rw [eqI_true] at hk8
    exact ⟨X.gat, hO1.row.rd.trans rfl, hO1.ok (by omega), simp1 (X' := { X with gat := addI .i64 X.gat 1 }) rfl rfl rfl (by omega) (by simp [Own.put, hk8])⟩
  rw [eqI_false] at hk8
  rw [splitB_iff]
  refine ⟨fun hk9 => ?_, fun hk9 => ?_⟩
  · rw [eqI_true] at hk9
    exact ⟨X.wak, hO1.row.rd.trans rfl, hO1.ok (by omega), simp1 (X' := { X with wak := addI .i64 X.wak 1 }) rfl rfl rfl (by omega) (by simp [Own.put, hk9])⟩
  rw [eqI_false] at hk9
  exact hQ _ lab a n c (by simp only [Own.put, if_neg hk, if_neg hk2, if_neg hk3, if_neg hk4, if_neg hk5, if_neg hk6, if_neg hk7, if_neg hk8, if_neg hk9]; exact hO1) st1

/-! ## all of them -/

def Own.zero : Own := ⟨0, 0, 0, 0, 0, 0, 0, 0, 0, 0, 0, 0, fun _ => none, []⟩

structure Ev where
  (At Kind Who N : Int)

abbrev Sig := Int → Option Own

def updS (σ : Sig) (w : Int) (X : Own) : Sig := fun j => if j = w then some X else σ j

def putM (σ : Sig) (e : Ev) : Sig := if e.Who < 0 ∨ e.At < 0 then σ else updS σ e.Who (((σ e.Who).getD Own.zero).put e.At e.Kind e.N)

structure StatsAt (m : Mem) (lab : Lab) (q bs rs : Nat) (σ : Sig) : Prop where
  row : ∃ e x, Row m bs [.map (some rs)] e x
  map : ∃ f, IMap m rs .i64 f ∧ ∀ w, (f w = none ∧ σ w = none) ∨ ∃ b X r a n c, 0 ≤ w ∧ f w = some (.pointer (some ⟨b, 0, none⟩)) ∧ σ w = some X ∧ OwnAt m lab q w b X r a n c
  flr : m.fl ≤ rs
  lb : lab bs = (q, -2, 0)
  lr : lab rs = (q, -1, 0)

structure StepS (m : Mem) (lab : Lab) (m' : Mem) (lab' : Lab) (q : Nat) : Prop where
  wf : Wf m'
  nx : m.nx ≤ m'.nx
  fl : m'.fl = m.fl
  labs : ∀ b, b < m.nx → lab' b = lab b
  get : ∀ b, b < m.nx → (lab b).1 ≠ q → m'.hp.get b = m.hp.get b

theorem StepS.refl {m : Mem} {lab : Lab} {q : Nat} (hw : Wf m) : StepS m lab m lab q := ⟨hw, Nat.le_refl _, rfl, fun _ _ => rfl, fun _ _ _ => rfl⟩
theorem StepS.trans {m m1 m2 : Mem} {lab lab1 lab2 : Lab} {q : Nat} (h : StepS m lab m1 lab1 q) (k : StepS m1 lab1 m2 lab2 q) : StepS m lab m2 lab2 q :=
  ⟨k.wf, Nat.le_trans h.nx k.nx, k.fl.trans h.fl, fun b hb => (k.labs b (Nat.lt_of_lt_of_le hb h.nx)).trans (h.labs b hb), fun b hb hn => (k.get b (Nat.lt_of_lt_of_le hb h.nx) (by rw [h.labs b hb]; exact hn)).trans (h.get b hb hn)⟩
theorem Step.all {m : Mem} {lab : Lab} {m' : Mem} {lab' : Lab} {q : Nat} {who : Int} (h : Step m lab m' lab' q who) : StepS m lab m' lab' q := ⟨h.wf, h.nx, h.fl, h.labs, fun b hb hn => h.get b hb (.inl hn)⟩

theorem StatsAt.bs_lt {m : Mem} {lab : Lab} {q bs rs : Nat} {σ : Sig} (hw : Wf m) (h : StatsAt m lab q bs rs σ) : bs < m.nx := by
  obtain ⟨e, x, h1⟩ := h.row; exact hw.row h1
theorem StatsAt.rs_lt {m : Mem} {lab : Lab} {q bs rs : Nat} {σ : Sig} (hw : Wf m) (h : StatsAt m lab q bs rs σ) : rs < m.nx := by
  obtain ⟨f, h1, _⟩ := h.map; exact h1.lt hw

/-- what others do leaves it -/
theorem StatsAt.keep {m m' : Mem} {lab lab' : Lab} {q bs rs : Nat} {σ : Sig} (hw : Wf m) (h : StatsAt m lab q bs rs σ) (hfl : m'.fl = m.fl)
    (hg : ∀ b, b < m.nx → (lab b).1 = q → m'.hp.get b = m.hp.get b) (hl : ∀ b, b < m.nx → lab' b = lab b) : StatsAt m' lab' q bs rs σ := by
  have hb := h.bs_lt hw
  have hr := h.rs_lt hw
  obtain ⟨e, x, h1⟩ := h.row
  obtain ⟨f, h2, h3⟩ := h.map
  refine ⟨⟨e, x, h1.congr (hg bs hb (by rw [h.lb]))⟩, ⟨f, h2.congr (hg rs hr (by rw [h.lr])), fun w => ?_⟩, by rw [hfl]; exact h.flr, (hl bs hb).trans h.lb, (hl rs hr).trans h.lr⟩
  rcases h3 w with h4 | ⟨b, X, r, a, n, c, h0, h4, h5, h6⟩
  · exact .inl h4
  · exact .inr ⟨b, X, r, a, n, c, h0, h4, h5, h6.keep hw hfl (fun b hb h7 _ => hg b hb h7) hl⟩

/-- one of them has gone on -/
theorem StatsAt.step {m m' : Mem} {lab lab' : Lab} {q bs rs : Nat} {σ : Sig} {w : Int} {X' : Own} {b r : Nat} {a : Option Addr} {n c : Nat} (hw : Wf m) (h : StatsAt m lab q bs rs σ) (h0 : 0 ≤ w)
    (hf : ∀ f, IMap m rs .i64 f → f w = some (.pointer (some ⟨b, 0, none⟩))) (st : Step m lab m' lab' q w) (ho : OwnAt m' lab' q w b X' r a n c) : StatsAt m' lab' q bs rs (updS σ w X') := by
  have hb := h.bs_lt hw
  have hr := h.rs_lt hw
  obtain ⟨e, x, h1⟩ := h.row
  obtain ⟨f, h2, h3⟩ := h.map
  refine ⟨⟨e, x, h1.congr (st.get bs hb (.inr (by rw [h.lb]; show (-2 : Int) ≠ w; omega)))⟩, ⟨f, h2.congr (st.get rs hr (.inr (by rw [h.lr]; show (-1 : Int) ≠ w; omega))), fun j => ?_⟩, by rw [st.fl]; exact h.flr, (st.labs bs hb).trans h.lb, (st.labs rs hr).trans h.lr⟩
  by_cases hj : j = w
  · subst hj
    exact .inr ⟨b, X', r, a, n, c, h0, hf f h2, by simp [updS], ho⟩
  · rcases h3 j with h4 | ⟨b', X, r', a', n', c', h0', h4, h5, h6⟩
    · exact .inl ⟨h4.1, by simp [updS, hj, h4.2]⟩
    · exact .inr ⟨b', X, r', a', n', c', h0', h4, by simp [updS, hj, h5], h6.keep hw st.fl (fun b hb _ h8 => st.get b hb (.inr (by rw [h8]; exact hj))) st.labs⟩

/-- Events in a row -/
def EvS (m : Mem) (a : Option Addr) (n : Nat) (es : List Ev) : Prop :=
  es.length = n ∧ ∀ i e, es[i]? = some e → ∃ b o, a = some ⟨b, o, none⟩ ∧ rd m b (o + i * 4) = some (.int .i64 e.At) ∧ rd m b (o + i * 4 + 1) = some (.int .i64 e.Kind) ∧ rd m b (o + i * 4 + 2) = some (.int .i64 e.Who) ∧ rd m b (o + i * 4 + 3) = some (.int .i64 e.N)

theorem EvS.keep {m m' : Mem} {a : Option Addr} {n : Nat} {es : List Ev} (h : EvS m a n es) (hg : ∀ b o, a = some ⟨b, o, none⟩ → n ≠ 0 → m'.hp.get b = m.hp.get b) : EvS m' a n es :=
  ⟨h.1, fun i e he => by
    obtain ⟨b, o, h1, h2, h3, h4, h5⟩ := h.2 i e he
    have hb := hg b o h1 (by have := h.1; have := (List.getElem?_eq_some_iff.1 he).1; omega)
    exact ⟨b, o, h1, (rd_congr hb).trans h2, (rd_congr hb).trans h3, (rd_congr hb).trans h4, (rd_congr hb).trans h5⟩⟩

def Small (σ : Sig) (k : Nat) : Prop := ∀ w X, σ w = some X → X.times.length ≤ k

theorem done_times (X : Own) (t n : Int) : (X.done t n).times.length ≤ X.times.length + 1 := by
  unfold Own.done
  split
  · omega
  · split
    · omega
    · simp

theorem put_times (X : Own) (t k n : Int) : (X.put t k n).times.length ≤ X.times.length + 1 := by
  unfold Own.put
  repeat' split
  all_goals first | exact done_times _ _ _ | exact Nat.le_succ _

theorem Small.put {σ : Sig} {k : Nat} (h : Small σ k) (e : Ev) : Small (putM σ e) (k + 1) := by
  intro w X hX
  unfold putM at hX
  split at hX
  · have := h w X hX; omega
  · unfold updS at hX
    split at hX
    · cases hX
      refine Nat.le_trans (put_times _ _ _ _) ?_
      cases hs : σ e.Who with
      | none => simp [Own.zero]
      | some Y => have := h _ _ hs; simp; omega
    · have := h w X hX; omega

theorem Small.mono {σ : Sig} {k k' : Nat} (h : Small σ k) (hk : k ≤ k') : Small σ k' := fun w X hX => Nat.le_trans (h w X hX) hk

theorem Small.fold {σ : Sig} : ∀ {l : List Ev} {k : Nat}, Small σ k → Small (l.foldl putM σ) (k + l.length)
  | [], k, h => h
  | e :: l, k, h => by
    have := Small.fold (l := l) (h.put e)
    simp only [List.foldl_cons, List.length_cons]
    rwa [show k + (l.length + 1) = k + 1 + l.length by omega]

theorem new_ok {m : Mem} {lab : Lab} {q : Nat} {Q : Value → Mem → Prop} (hw : Wf m)
    (hQ : ∀ m' bs rs lab', StatsAt m' lab' q bs rs (fun _ => none) → StepS m lab m' lab' q → (∀ b, b < m.nx → m'.hp.get b = m.hp.get b) → Q (.pointer (some ⟨bs, 0, none⟩)) m') : CallW cx 9 [] m Q := by
  apply F9_ok
  unfold F9
  simp only [mBind_iff]
  have g : ∀ b, b < m.nx → (AX.newO (AX.newO m (.map [] 0)) (row [.map (some m.nx)] 42 false)).hp.get b = m.hp.get b := fun b hb => by
    rw [newO_get, if_neg (by simp; omega), newO_get, if_neg (by omega)]
  refine hQ _ (m.nx + 1) m.nx (fun b => if b = m.nx + 1 then (q, -2, 0) else if b = m.nx then (q, -1, 0) else lab b) ⟨⟨42, false, Row.newO⟩, ⟨fun _ => none, IMap.newO.congr (by rw [newO_get, if_neg (by simp)]), fun w => .inl ⟨rfl, rfl⟩⟩, by simpa using hw.1, by simp, by simp⟩ ⟨hw.newO.newO, by simp; omega, rfl, fun b hb => ?_, fun b hb _ => g b hb⟩ g
  show (if b = m.nx + 1 then _ else if b = m.nx then _ else lab b) = lab b
  rw [if_neg (by omega), if_neg (by omega)]

theorem wrapNat {i : Nat} (h : i < 1000000) : addI .i64 (i : Int) 1 = ((i + 1 : Nat) : Int) := by
  rw [addI_64 (by omega) (by omega)]; omega

theorem putAll_ok {m : Mem} {lab : Lab} {q bs rs : Nat} {σ : Sig} {a : Option Addr} {n c : Nat} {es : List Ev} {k : Nat} {Q : Value → Mem → Prop} (hw : Wf m) (h : StatsAt m lab q bs rs σ) (he : EvS m a n es)
    (hbl : ∀ b o, a = some ⟨b, o, none⟩ → n ≠ 0 → b < m.nx ∧ (lab b).1 ≠ q) (hk : Small σ k) (hkn : k + n ≤ 1000000)
    (hQ : ∀ m' lab', StatsAt m' lab' q bs rs (es.foldl putM σ) → StepS m lab m' lab' q → Q (.tuple #[]) m') :
    CallW cx 10 [.pointer (some ⟨bs, 0, none⟩), .slice a n c] m Q := by
  apply F10_ok
  unfold F10
  refine ⟨fun x m1 n1 => ∃ i : Nat, x = i ∧ i ≤ n ∧ n1 = n - i ∧ ∃ lab1, StatsAt m1 lab1 q bs rs ((es.take i).foldl putM σ) ∧ StepS m lab m1 lab1 q, ⟨n, 0, rfl, by omega, by omega, lab, by simpa using h, StepS.refl hw⟩, ?_⟩
  rintro x m1 n1 ⟨i, rfl, hi, rfl, lab1, hS, st⟩
  rw [splitB_iff]
  constructor
  · intro hlt
    have hlt' : i < n := by rw [ltI_true] at hlt; simpa [lenI] using hlt
    refine ⟨⟨by omega, by omega⟩, ?_⟩
    obtain ⟨e, hei⟩ : ∃ e, es[i]? = some e := ⟨_, List.getElem?_eq_getElem (by have := he.1; omega)⟩
    obtain ⟨b, o, ha, hA, hK, hW, hN⟩ := he.2 i e hei
    obtain ⟨hb, hbq⟩ := hbl b o ha (by omega)
    have hgb : m1.hp.get b = m.hp.get b := st.get b hb hbq
    subst ha
    have hfold : (es.take (i + 1)).foldl putM σ = putM ((es.take i).foldl putM σ) e := by
      rw [List.take_add_one, hei]; simp
    have hsm : Small ((es.take i).foldl putM σ) (k + i) := by
      have := hk.fold (l := es.take i)
      exact this.mono (by simp; omega)
    simp only [vPtr_some, Int.toNat_natCast]
    refine ⟨e.At, (rd_congr hgb).trans hA, e.Kind, (rd_congr hgb).trans hK, e.Who, (rd_congr hgb).trans hW, e.N, (rd_congr hgb).trans hN, ?_⟩
    have back : ∀ m' lab', StatsAt m' lab' q bs rs (putM ((es.take i).foldl putM σ) e) → StepS m lab m' lab' q →
        ∃ n2, n2 < n - i ∧ ∃ i' : Nat, addI .i64 (i : Int) 1 = (i' : Int) ∧ i' ≤ n ∧ n2 = n - i' ∧ ∃ lab1, StatsAt m' lab1 q bs rs ((es.take i').foldl putM σ) ∧ StepS m lab m' lab1 q := by
      intro m' lab' h1 h2
      exact ⟨n - (i + 1), by omega, i + 1, wrapNat (by omega), by omega, rfl, lab', by rw [hfold]; exact h1, h2⟩
    rw [mBind_iff]
    refine ⟨Row.newO.okW (by have := st.wf.1; simpa using this) (by simp), ?_⟩
    rw [mBind_iff]
    generalize hm3 : AX.wr (AX.newO m1 (row [Value.int IntKind.i64 0, Value.int IntKind.i64 0, Value.int IntKind.i64 0, Value.int IntKind.i64 0] 29 false)) m1.nx 0 [Value.int IntKind.i64 e.At, Value.int IntKind.i64 e.Kind, Value.int IntKind.i64 e.Who, Value.int IntKind.i64 e.N] = m3
    have hE3 : Row m3 m1.nx [Value.int IntKind.i64 e.At, Value.int IntKind.i64 e.Kind, Value.int IntKind.i64 e.Who, Value.int IntKind.i64 e.N] 29 false := hm3 ▸ Row.newO.wr (o := 0) (vs := [Value.int IntKind.i64 e.At, Value.int IntKind.i64 e.Kind, Value.int IntKind.i64 e.Who, Value.int IntKind.i64 e.N]) (by simp)
    have g3 : ∀ b, b < m1.nx → m3.hp.get b = m1.hp.get b := fun b hb => by rw [← hm3, wr_get (by omega), newO_get, if_neg (by omega)]
    have hw3 : Wf m3 := hm3 ▸ st.wf.newO.wr
    have nx3 : m3.nx = m1.nx + 1 := by rw [← hm3]; simp
    have fl3 : m3.fl = m1.fl := by rw [← hm3]; simp
    have hS3 : StatsAt m3 lab1 q bs rs ((es.take i).foldl putM σ) := hS.keep st.wf fl3 (fun b hb _ => g3 b hb) (fun _ _ => rfl)
    have st3 : StepS m lab m3 lab1 q := st.trans ⟨hw3, by omega, fl3, fun _ _ => rfl, fun b hb _ => g3 b hb⟩
    simp only [joinK]
    refine ⟨e.Who, hE3.rd.trans rfl, ?_⟩
    rw [splitB_iff]
    refine ⟨fun hneg => ?_, fun hpos => ?_⟩
    · rw [ltI_true] at hneg
      exact back m3 lab1 (by unfold putM; rw [if_pos (.inl hneg)]; exact hS3) st3
    rw [ltI_false] at hpos
    refine ⟨e.At, hE3.rd.trans rfl, ?_⟩
    rw [splitB_iff]
    refine ⟨fun hneg => ?_, fun hpos2 => ?_⟩
    · rw [ltI_true] at hneg
      exact back m3 lab1 (by unfold putM; rw [if_pos (.inr hneg)]; exact hS3) st3
    rw [ltI_false] at hpos2
    have hput : putM ((es.take i).foldl putM σ) e = updS ((es.take i).foldl putM σ) e.Who (((((es.take i).foldl putM σ) e.Who).getD Own.zero).put e.At e.Kind e.N) := by
      unfold putM; rw [if_neg (by omega)]
    rw [mBind_iff]
    simp only [rd_bump]
    obtain ⟨er, xr, hrow3⟩ := hS3.row
    refine ⟨some rs, hrow3.rd.trans rfl, e.Who, hE3.rd.trans rfl, ?_⟩
    obtain ⟨f, hM3, hf3⟩ := id hS3.map
    have hM5 : IMap (AX.bump m3 8) rs .i64 f := hM3.congr rfl
    have hlook := hM5.look (mk40 e.Who) (ok := false) z43
    have hS5 : StatsAt (AX.bump m3 8) lab1 q bs rs ((es.take i).foldl putM σ) := hS3.keep hw3 rfl (fun _ _ _ => rfl) (fun _ _ => rfl)
    have st5 : StepS m lab (AX.bump m3 8) lab1 q := st3.trans ⟨hw3.bump, by simp, rfl, fun _ _ => rfl, fun _ _ _ => rfl⟩
    rcases hf3 e.Who with ⟨hfn, hsn⟩ | ⟨b1, X, r, a', n', c', h0, hfs, hss, hO⟩
    · rw [hfn] at hlook
      refine ⟨none, hlook, ?_⟩
      rw [show Option.isNone (none : Option Addr) = true from rfl, splitB_true, mBind_iff, mBind_iff, mBind_iff]
      simp only [rd_bump, bump_nx, newO_nx]
      generalize hm8 : AX.bump (AX.newO (AX.newO (AX.bump m3 8) (.map [] 0)) (row [Value.int IntKind.i64 0, Value.int IntKind.i64 0, Value.int IntKind.i64 0, Value.int IntKind.i64 0, Value.int IntKind.i64 0, Value.int IntKind.i64 0, Value.int IntKind.i64 0, Value.int IntKind.i64 0, Value.int IntKind.i64 0, Value.int IntKind.i64 0, Value.int IntKind.i64 0, Value.int IntKind.i64 0, Value.map (some (m3.nx + 8)), Value.slice none 0 0] 47 false)) 8 = m8
      have g8 : ∀ b, b < m3.nx → m8.hp.get b = m3.hp.get b := fun b hb => by rw [← hm8, bump_hp, newO_get, if_neg (by simp; omega), newO_get, if_neg (by simp; omega)]; rfl
      have rd8 : ∀ b o, b < m3.nx → rd m8 b o = rd m3 b o := fun b o hb => rd_congr (g8 b hb)
      have hw8 : Wf m8 := hm8 ▸ hw3.bump.newO.newO.bump
      have nx8 : m8.nx = m3.nx + 18 := by rw [← hm8]; simp
      have fl8 : m8.fl = m3.fl := by rw [← hm8]; simp
      have hbs3 := hS3.bs_lt hw3
      have hrs3 := hS3.rs_lt hw3
      have hrdb : ∀ o, rd (AX.newO (AX.newO (AX.bump m3 8) (.map [] 0)) (row [Value.int IntKind.i64 0, Value.int IntKind.i64 0, Value.int IntKind.i64 0, Value.int IntKind.i64 0, Value.int IntKind.i64 0, Value.int IntKind.i64 0, Value.int IntKind.i64 0, Value.int IntKind.i64 0, Value.int IntKind.i64 0, Value.int IntKind.i64 0, Value.int IntKind.i64 0, Value.int IntKind.i64 0, Value.map (some (m3.nx + 8)), Value.slice none 0 0] 47 false)) bs o = rd m8 bs o := fun o => by rw [← hm8]; rfl
      have hrde : ∀ o, rd (AX.newO (AX.newO (AX.bump m3 8) (.map [] 0)) (row [Value.int IntKind.i64 0, Value.int IntKind.i64 0, Value.int IntKind.i64 0, Value.int IntKind.i64 0, Value.int IntKind.i64 0, Value.int IntKind.i64 0, Value.int IntKind.i64 0, Value.int IntKind.i64 0, Value.int IntKind.i64 0, Value.int IntKind.i64 0, Value.int IntKind.i64 0, Value.int IntKind.i64 0, Value.map (some (m3.nx + 8)), Value.slice none 0 0] 47 false)) m1.nx o = rd m8 m1.nx o := fun o => by rw [← hm8]; rfl
      refine ⟨some rs, (hrdb 0).trans ((rd8 bs 0 hbs3).trans (hrow3.rd.trans rfl)), e.Who, (hrde 2).trans ((rd8 m1.nx 2 (by omega)).trans (hE3.rd.trans rfl)), ?_⟩
      have hM8 : IMap m8 rs .i64 f := hM3.congr (g8 rs hrs3)
      obtain ⟨m9, h9, hM9, nx9, fl9, g9⟩ := hM8.update (by rw [fl8]; exact hS3.flr) (mk40 e.Who) (.pointer (some ⟨m3.nx + 9, 0, none⟩))
      refine ⟨m9, h9, ?_⟩
      have hw9 : Wf m9 := hw8.at (by omega) nx9 fl9 g9
      have hE9 : Row m9 m1.nx [Value.int IntKind.i64 e.At, Value.int IntKind.i64 e.Kind, Value.int IntKind.i64 e.Who, Value.int IntKind.i64 e.N] 29 false := (hE3.congr (g8 m1.nx (by omega))).congr (g9 m1.nx (by have := hS.rs_lt st.wf; omega))
      refine ⟨e.At, hE9.rd.trans rfl, e.Kind, hE9.rd.trans rfl, e.Who, hE9.rd.trans rfl, e.N, hE9.rd.trans rfl, ?_⟩
      have hlabs : ∀ b', b' < m3.nx → (fun b => if b = m3.nx + 9 then (q, e.Who, 0) else if b = m3.nx + 8 then (q, e.Who, 1) else lab1 b) b' = lab1 b' := fun b' hb' => by
        show (if b' = m3.nx + 9 then _ else if b' = m3.nx + 8 then _ else lab1 b') = lab1 b'
        rw [if_neg (by omega), if_neg (by omega)]
      have ho9 : OwnAt m9 (fun b => if b = m3.nx + 9 then (q, e.Who, 0) else if b = m3.nx + 8 then (q, e.Who, 1) else lab1 b) q e.Who (m3.nx + 9) Own.zero (m3.nx + 8) none 0 0 := by
        have hr9 : Row m8 (m3.nx + 9) (Own.zero.cells (m3.nx + 8) none 0 0) 47 false := by rw [← hm8]; exact Row.newO
        have hm9' : IMap m8 (m3.nx + 8) .i64 fun _ => none := by
          rw [← hm8]
          refine IMap.congr (IMap.newO (m := AX.bump m3 8)) ?_
          rw [bump_hp, newO_get, if_neg (by simp)]
        refine ⟨hr9.congr (g9 _ (by omega)), hm9'.congr (g9 _ (by omega)), Grow.nil _ _ _, ?_, ?_, by simp, by simp, fun tb e => by cases e⟩
        · rw [fl9, fl8]; have := hw3.1; omega
        · rw [fl9, fl8]; have := hw3.1; omega
      refine put_ok hw9 ho9 (by simp [Own.zero]) ?_
      intro m10 lab10 a10 n10 c10 hO10 st10
      refine ⟨rfl, back m10 lab10 ?_ ?_⟩
      · rw [hput, hsn]
        have hb9 : m3.nx + 9 < m9.nx := by omega
        refine ⟨⟨er, xr, (((hrow3.congr (g8 bs hbs3)).congr (g9 bs ?_)).congr (st10.get bs (by omega) (.inr ?_)))⟩, ⟨_, hM9.congr (st10.get rs (by omega) (.inr ?_)), fun j => ?_⟩, by rw [st10.fl, fl9, fl8]; exact hS3.flr, ?_, ?_⟩
        · intro e1; have := hS3.lb; rw [e1, hS3.lr] at this; simp at this
        · show ((fun b => if b = m3.nx + 9 then (q, e.Who, 0) else if b = m3.nx + 8 then (q, e.Who, 1) else lab1 b) bs).2.1 ≠ e.Who
          rw [hlabs bs hbs3, hS3.lb]; show (-2 : Int) ≠ e.Who; omega
        · show ((fun b => if b = m3.nx + 9 then (q, e.Who, 0) else if b = m3.nx + 8 then (q, e.Who, 1) else lab1 b) rs).2.1 ≠ e.Who
          rw [hlabs rs hrs3, hS3.lr]; show (-1 : Int) ≠ e.Who; omega
        · by_cases hj : j = e.Who
          · subst hj
            exact .inr ⟨_, _, _, _, _, _, hpos, by simp [updI], by simp [updS], hO10⟩
          · rcases hf3 j with h4 | ⟨b', X, r', a', n', c', h0', h4, h5, h6⟩
            · exact .inl ⟨by simp [updI, hj, h4.1], by simp [updS, hj, h4.2]⟩
            · refine .inr ⟨b', X, r', a', n', c', h0', by simp [updI, hj, h4], by simp [updS, hj, h5], ?_⟩
              have h7 : OwnAt m9 (fun b => if b = m3.nx + 9 then (q, e.Who, 0) else if b = m3.nx + 8 then (q, e.Who, 1) else lab1 b) q j b' X r' a' n' c' :=
                h6.keep hw3 (by rw [fl9, fl8]) (fun b hb _ h8 => (g9 b (fun e1 => by rw [e1, hS3.lr] at h8; simp at h8; omega)).trans (g8 b hb)) hlabs
              exact h7.keep hw9 st10.fl (fun b hb _ h8 => st10.get b hb (.inr (by rw [h8]; exact hj))) st10.labs
        · exact (st10.labs bs (by omega)).trans ((hlabs bs hbs3).trans hS3.lb)
        · exact (st10.labs rs (by omega)).trans ((hlabs rs hrs3).trans hS3.lr)
      · refine st3.trans ⟨st10.wf, by have := st10.nx; omega, by rw [st10.fl, fl9, fl8], fun b hb => ?_, fun b hb hn => ?_⟩
        · rw [st10.labs b (by omega)]; exact hlabs b hb
        · rw [st10.get b (by omega) (.inl (fun e1 => hn ((congrArg (fun x : Nat × Int × Nat => x.1) (hlabs b hb)).symm.trans e1))), g9 b (fun e1 => by rw [e1, hS3.lr] at hn; simp at hn), g8 b hb]
    · rw [hfs] at hlook
      refine ⟨some ⟨b1, 0, none⟩, hlook, ?_⟩
      rw [show Option.isNone (some ({ block := b1, off := 0, spot := none } : Addr)) = false from rfl, splitB_false]
      refine ⟨e.At, hE3.rd.trans rfl, e.Kind, hE3.rd.trans rfl, e.Who, hE3.rd.trans rfl, e.N, hE3.rd.trans rfl, ?_⟩
      have hO5 : OwnAt (AX.bump m3 8) lab1 q e.Who b1 X r a' n' c' := hO.keep hw3 rfl (fun _ _ _ _ => rfl) (fun _ _ => rfl)
      refine put_ok hw3.bump hO5 (by have := hsm _ _ hss; omega) ?_
      intro m10 lab10 a10 n10 c10 hO10 st10
      refine ⟨rfl, back m10 lab10 ?_ (st5.trans st10.all)⟩
      rw [hput, hss]
      refine hS5.step hw3.bump h0 ?_ st10 hO10
      intro f' hf'
      obtain ⟨es1, cl1, h1, ⟨h2, h3⟩, _⟩ := hf'
      obtain ⟨es2, cl2, k1, ⟨k2, k3⟩, _⟩ := hM5
      rw [h1] at k1; cases k1
      obtain ⟨r1, p1, p2⟩ := h3 e.Who
      obtain ⟨r2, p3, p4⟩ := k3 e.Who
      rw [p1] at p3; cases p3
      rw [← p2, p4, hfs]
  · intro hlt
    have hlt' : i = n := by rw [ltI_false] at hlt; simp [lenI] at hlt; omega
    subst hlt'
    refine hQ m1 lab1 ?_ st
    have : es.take i = es := by rw [List.take_of_length_le]; have := he.1; omega
    rwa [this] at hS

/-! ## asking -/

def Own.tell (X : Own) : Value := .agg #[.int .i64 X.rel, .int .i64 X.don, .int .i64 X.abo, .int .i64 X.wai, .int .i64 X.tur, .int .i64 X.gra, .int .i64 X.dea, .int .i64 X.gat, .int .i64 X.wak, .int .i64 X.opn, .int .i64 X.wor, .int .i64 X.sum]

theorem of_ok {m : Mem} {lab : Lab} {q bs rs : Nat} {σ : Sig} {who : Int} {Q : Value → Mem → Prop} (hw : Wf m) (h : StatsAt m lab q bs rs σ)
    (hQ : ∀ m', Wf m' → m.nx ≤ m'.nx → m'.fl = m.fl → (∀ b, b < m.nx → m'.hp.get b = m.hp.get b) → Q (.tuple #[((σ who).getD Own.zero).tell, .bool (σ who).isSome]) m') :
    CallW cx 11 [.pointer (some ⟨bs, 0, none⟩), .int .i64 who] m Q := by
  apply F11_ok
  unfold F11
  rw [mBind_iff]
  generalize hm1 : AX.newO m (row [Value.int IntKind.i64 0, Value.int IntKind.i64 0, Value.int IntKind.i64 0, Value.int IntKind.i64 0, Value.int IntKind.i64 0, Value.int IntKind.i64 0, Value.int IntKind.i64 0, Value.int IntKind.i64 0, Value.int IntKind.i64 0, Value.int IntKind.i64 0, Value.int IntKind.i64 0, Value.int IntKind.i64 0] 27 false) = m1
  have g1 : ∀ b, b < m.nx → m1.hp.get b = m.hp.get b := fun b hb => by rw [← hm1, newO_get, if_neg (by omega)]
  have hw1 : Wf m1 := hm1 ▸ hw.newO
  have nx1 : m1.nx = m.nx + 1 := by rw [← hm1]; rfl
  have fl1 : m1.fl = m.fl := by rw [← hm1]; rfl
  have hR1 : Row m1 m.nx _ 27 false := hm1 ▸ Row.newO
  have hflm : m1.fl ≤ m.nx := by rw [fl1]; exact hw.1
  have hS1 : StatsAt m1 lab q bs rs σ := h.keep hw fl1 (fun b hb _ => g1 b hb) (fun _ _ => rfl)
  have fin : ∀ (vs : List Value) (m2 : Mem), AX.wr m1 m.nx 0 vs = m2 → Wf m2 ∧ m.nx ≤ m2.nx ∧ m2.fl = m.fl ∧ ∀ b, b < m.nx → m2.hp.get b = m.hp.get b := by
    intro vs m2 e
    subst e
    exact ⟨hw1.wr, by simp; omega, by simp [fl1], fun b hb => by rw [wr_get (by omega), g1 b hb]⟩
  obtain ⟨er, xr, hrow⟩ := hS1.row
  obtain ⟨f, hM, hf⟩ := hS1.map
  simp only [vPtr_some]
  refine ⟨some rs, hrow.rd.trans rfl, ?_⟩
  have hlook := hM.look (mk40 who) (ok := false) z43
  rcases hf who with ⟨hfn, hsn⟩ | ⟨b, X, r, a, n, c, h0, hfs, hss, hO⟩
  · rw [hfn] at hlook
    refine ⟨none, hlook, ?_⟩
    rw [show Option.isNone (none : Option Addr) = true from rfl, splitB_true]
    refine ⟨hR1.okW hflm (by simp), ?_⟩
    rw [mBind_iff]
    generalize hm2 : AX.wr m1 m.nx 0 _ = m2
    have hR2 : Row m2 m.nx (over _ 0 _) 27 false := hm2 ▸ hR1.wr (o := 0) (by simp)
    obtain ⟨k1, k2, k3, k4⟩ := fin _ _ hm2
    iterate 12 refine ⟨_, hR2.rd.trans rfl, ?_⟩
    have := hQ m2 k1 k2 k3 k4
    rw [hsn] at this
    exact this
  · rw [hfs] at hlook
    refine ⟨some ⟨b, 0, none⟩, hlook, ?_⟩
    rw [show Option.isNone (some ({ block := b, off := 0, spot := none } : Addr)) = false from rfl, splitB_false]
    simp only [vPtr_some, Nat.zero_add]
    iterate 12 refine ⟨_, hO.row.rd.trans rfl, ?_⟩
    refine ⟨hR1.okW hflm (by simp), ?_⟩
    rw [mBind_iff]
    generalize hm2 : AX.wr m1 m.nx 0 _ = m2
    have hR2 : Row m2 m.nx (over _ 0 _) 27 false := hm2 ▸ hR1.wr (o := 0) (by simp)
    obtain ⟨k1, k2, k3, k4⟩ := fin _ _ hm2
    iterate 12 refine ⟨_, hR2.rd.trans rfl, ?_⟩
    have := hQ m2 k1 k2 k3 k4
    rw [hss] at this
    exact this

def lateN (l : List Int) (p : Int) : Int := ((l.filter fun t => decide (p < t)).length : Nat)

theorem lateN_snoc (l : List Int) (x p : Int) : lateN (l ++ [x]) p = lateN l p + if p < x then 1 else 0 := by
  unfold lateN
  rw [List.filter_append]
  by_cases h : p < x <;> simp [h]

theorem lateN_le (l : List Int) (p : Int) : 0 ≤ lateN l p ∧ lateN l p ≤ l.length := by
  unfold lateN
  have := List.length_filter_le (fun t => decide (p < t)) l
  omega

theorem late_ok {m M : Mem} {lab : Lab} {q bs rs : Nat} {σ : Sig} {who p : Int} {Q : Value → Mem → Prop} (h : StatsAt m lab q bs rs σ) (hk : Small σ 1000000) (hp : M.hp = m.hp)
    (hQ : Q (.int .i64 (lateN ((σ who).getD Own.zero).times p)) M) : CallW cx 12 [.pointer (some ⟨bs, 0, none⟩), .int .i64 who, .int .i64 p] M Q := by
  apply F12_ok
  unfold F12
  obtain ⟨er, xr, hrow0⟩ := h.row
  obtain ⟨f, hM0, hf⟩ := h.map
  have hrow : Row M bs [.map (some rs)] er xr := hrow0.congr (by rw [hp])
  have hM : IMap M rs .i64 f := hM0.congr (by rw [hp])
  simp only [vPtr_some]
  refine ⟨some rs, hrow.rd.trans rfl, ?_⟩
  have hlook := hM.look (mk40 who) (ok := false) z43
  rcases hf who with ⟨hfn, hsn⟩ | ⟨b, X, r, a, n, c, h0, hfs, hss, hO⟩
  · rw [hfn] at hlook
    refine ⟨none, hlook, ?_⟩
    rw [show (!Option.isNone (none : Option Addr)) = false from rfl, splitB_false]
    rw [hsn] at hQ
    exact hQ
  · rw [hfs] at hlook
    refine ⟨some ⟨b, 0, none⟩, hlook, ?_⟩
    rw [show (!Option.isNone (some ({ block := b, off := 0, spot := none } : Addr))) = true from rfl, splitB_true]
    simp only [vPtr_some, Nat.zero_add]
    refine ⟨a, n, c, (hO.row.congr (m' := M) (by rw [hp])).rd.trans rfl, ?_⟩
    have hlen : X.times.length = n := by have := hO.grow.1; simpa using this
    have hsz := hk _ _ hss
    rw [hss] at hQ
    refine ⟨fun x i m1 n1 => ∃ j : Nat, i = j ∧ j ≤ n ∧ n1 = n - j ∧ m1 = M ∧ x = lateN (X.times.take j) p, ⟨n, 0, rfl, by omega, by omega, rfl, rfl⟩, ?_⟩
    rintro x i m1 n1 ⟨j, rfl, hj, rfl, rfl, rfl⟩
    rw [splitB_iff]
    refine ⟨fun hlt => ?_, fun hge => ?_⟩
    · have hlt' : j < n := by rw [ltI_true] at hlt; simpa [lenI] using hlt
      refine ⟨⟨by omega, by omega⟩, ?_⟩
      rcases hO.grow.2 with ⟨_, h2, _⟩ | ⟨tb, rfl, rfl, _, hT⟩
      · omega
      · obtain ⟨x, hx⟩ : ∃ x, X.times[j]? = some x := ⟨_, List.getElem?_eq_getElem (by omega)⟩
        have hrd : rd m1 tb j = some (.int .i64 x) := by rw [(hT.congr (m' := m1) (by rw [hp])).rd, List.getElem?_map, hx]; rfl
        simp only [vPtr_some, Int.toNat_natCast, Nat.zero_add, Nat.mul_one]
        refine ⟨x, hrd, ?_⟩
        have hts : X.times.take (j + 1) = X.times.take j ++ [x] := by rw [List.take_add_one, hx]; rfl
        have hb := lateN_le (X.times.take j) p
        have hb2 : (X.times.take j).length ≤ j := by simp; omega
        rw [splitB_iff]
        refine ⟨fun h1 => ?_, fun h1 => ?_⟩
        · rw [ltI_true] at h1
          refine ⟨c - (j + 1), by omega, j + 1, wrapNat (by omega), by omega, rfl, by trivial, ?_⟩
          rw [hts, lateN_snoc, if_pos h1, addI_64 (by omega) (by omega)]
        · rw [ltI_false] at h1
          refine ⟨c - (j + 1), by omega, j + 1, wrapNat (by omega), by omega, rfl, by trivial, ?_⟩
          rw [hts, lateN_snoc, if_neg (by omega)]; omega
    · have : j = n := by rw [ltI_false] at hge; simp [lenI] at hge; omega
      rw [List.take_of_length_le (by omega)]
      exact hQ

/-! ## what holds of one, always -/

structure Good (X : Own) (k : Nat) : Prop where
  since : ∀ N t, X.since N = some t → 0 ≤ t
  sum : 0 ≤ X.sum ∧ X.sum ≤ 4611686018427387904
  wor : 0 ≤ X.wor
  tim : ∀ t ∈ X.times, t ≤ X.wor
  don : (X.times.length : Int) ≤ X.don ∧ X.don ≤ k
  big : X.wor ≤ X.sum ∨ X.sum = 4611686018427387904
  opn : 0 ≤ X.opn ∧ X.opn ≤ k

theorem Good.zero : Good Own.zero 0 :=
  ⟨(fun _ _ e => nomatch e), ⟨Int.le_refl _, by show (0 : Int) ≤ _; omega⟩, Int.le_refl _, (fun _ h => nomatch h), ⟨by show ((0 : Nat) : Int) ≤ 0; omega, by show (0 : Int) ≤ _; omega⟩, .inl (Int.le_refl _), ⟨Int.le_refl _, by show (0 : Int) ≤ _; omega⟩⟩

theorem Good.mono {X : Own} {k k' : Nat} (h : Good X k) (hk : k ≤ k') : Good X k' :=
  ⟨h.since, h.sum, h.wor, h.tim, ⟨h.don.1, by have := h.don.2; omega⟩, h.big, ⟨h.opn.1, by have := h.opn.2; omega⟩⟩

theorem mxI_le (x y : Int) : x ≤ mxI x y ∧ y ≤ mxI x y := by unfold mxI; split <;> omega
theorem mxI_or (x y : Int) : mxI x y = x ∨ mxI x y = y := by unfold mxI; split <;> simp

theorem Good.done {X : Own} {k : Nat} {t n : Int} (h : Good X k) (hd : (X.times.length : Int) + 1 ≤ X.don) (h0 : 0 ≤ t) (h1 : t ≤ 9223372036854775807) : Good (X.done t n) k := by
  unfold Own.done
  split
  · exact h
  · rename_i s hs
    split
    · exact h
    · rename_i hlt
      have hs0 := h.since n s hs
      have hsub : subI .i64 t s = t - s := subI_64 (by omega) (by omega)
      have hsum := h.sum
      have hsub2 : subI .i64 4611686018427387904 X.sum = 4611686018427387904 - X.sum := subI_64 (by omega) (by omega)
      rw [hsub, hsub2]
      have hm := mxI_le X.wor (t - s)
      have hor := mxI_or X.wor (t - s)
      have hw := h.wor
      have hb := h.big
      refine ⟨h.since, ?_, ?_, ?_, ?_, ?_, h.opn⟩
      · split
        · exact ⟨by show (0 : Int) ≤ 4611686018427387904; omega, Int.le_refl _⟩
        · have : addI .i64 X.sum (t - s) = X.sum + (t - s) := addI_64 (by omega) (by omega)
          show 0 ≤ addI .i64 X.sum (t - s) ∧ addI .i64 X.sum (t - s) ≤ 4611686018427387904
          omega
      · show 0 ≤ mxI X.wor (t - s); omega
      · intro u hu
        show u ≤ mxI X.wor (t - s)
        rcases List.mem_append.1 hu with h2 | h2
        · have := h.tim u h2; omega
        · simp at h2; omega
      · refine ⟨?_, h.don.2⟩
        show ((X.times ++ [t - s]).length : Int) ≤ X.don
        simp; omega
      · show mxI X.wor (t - s) ≤ (if _ then _ else _) ∨ (if _ then _ else _) = (4611686018427387904 : Int)
        split
        · exact .inr rfl
        · have : addI .i64 X.sum (t - s) = X.sum + (t - s) := addI_64 (by omega) (by omega)
          omega

theorem Good.put {X : Own} {k : Nat} {t kd n : Int} (h : Good X k) (hk : k < 1000000) (h0 : 0 ≤ t) (h1 : t ≤ 9223372036854775807) : Good (X.put t kd n) (k + 1) := by
  have hd := h.don
  have ho := h.opn
  have e1 : addI .i64 X.don 1 = X.don + 1 := addI_64 (by omega) (by omega)
  have e2 : addI .i64 X.opn 1 = X.opn + 1 := addI_64 (by omega) (by omega)
  have e3 : subI .i64 X.opn 1 = X.opn - 1 := subI_64 (by omega) (by omega)
  have hm := mxI_le (X.opn - 1) 0
  have hor := mxI_or (X.opn - 1) 0
  unfold Own.put
  split
  · refine ⟨fun N s hs => ?_, h.sum, h.wor, h.tim, ⟨hd.1, by show X.don ≤ _; omega⟩, h.big, ?_⟩
    · dsimp only at hs
      split at hs
      · cases hs; exact h0
      · exact h.since N s hs
    · show 0 ≤ addI .i64 X.opn 1 ∧ addI .i64 X.opn 1 ≤ _
      omega
  · split
    · refine Good.done (X := { X with don := addI .i64 X.don 1, opn := mxI (subI .i64 X.opn 1) 0 }) ⟨h.since, h.sum, h.wor, h.tim, ⟨?_, ?_⟩, h.big, ?_⟩ ?_ h0 h1
      · show (X.times.length : Int) ≤ addI .i64 X.don 1; omega
      · show addI .i64 X.don 1 ≤ _; omega
      · show 0 ≤ mxI (subI .i64 X.opn 1) 0 ∧ mxI (subI .i64 X.opn 1) 0 ≤ _
        rw [e3]; omega
      · show (X.times.length : Int) + 1 ≤ addI .i64 X.don 1; omega
    · split
      · refine ⟨h.since, h.sum, h.wor, h.tim, ⟨hd.1, by show X.don ≤ _; omega⟩, h.big, ?_⟩
        show 0 ≤ mxI (subI .i64 X.opn 1) 0 ∧ mxI (subI .i64 X.opn 1) 0 ≤ _
        rw [e3]; omega
      · repeat' split
        all_goals exact ⟨h.since, h.sum, h.wor, h.tim, ⟨hd.1, by show X.don ≤ _; omega⟩, h.big, ⟨ho.1, by show X.opn ≤ _; omega⟩⟩

def GoodS (σ : Sig) (k : Nat) : Prop := ∀ w X, σ w = some X → Good X k

def EvOk (e : Ev) : Prop := e.At ≤ 9223372036854775807

theorem GoodS.put {σ : Sig} {k : Nat} (h : GoodS σ k) (hk : k < 1000000) {e : Ev} (he : EvOk e) : GoodS (putM σ e) (k + 1) := by
  intro w X hX
  unfold putM at hX
  split at hX
  · exact (h w X hX).mono (by omega)
  · rename_i hn
    unfold updS at hX
    split at hX
    · cases hX
      cases hs : σ e.Who with
      | none => exact (Good.put (Good.zero.mono (Nat.zero_le k)) hk (by omega) he)
      | some Y => exact (h _ _ hs).put hk (by omega) he
    · exact (h w X hX).mono (by omega)

theorem GoodS.fold {σ : Sig} : ∀ {l : List Ev} {k : Nat}, GoodS σ k → k + l.length ≤ 1000000 → (∀ e ∈ l, EvOk e) → GoodS (l.foldl putM σ) (k + l.length)
  | [], k, h, _, _ => h
  | e :: l, k, h, hk, he => by
    simp only [List.length_cons] at hk
    have := GoodS.fold (l := l) (h.put (by omega) (he e (List.mem_cons_self ..))) (by omega) (fun x hx => he x (List.mem_cons_of_mem _ hx))
    simp only [List.foldl_cons, List.length_cons]
    rwa [show k + (l.length + 1) = k + 1 + l.length by omega]

def eqInts : List (Int × Int) → Option Bool
  | [] => some true
  | (a, b) :: r => match decide (a = b) with
    | true => eqInts r
    | false => some false

theorem eq27 (m : Mem) (x0 x1 x2 x3 x4 x5 x6 x7 x8 x9 x10 x11 y0 y1 y2 y3 y4 y5 y6 y7 y8 y9 y10 y11 : Int) :
    eqV cx m 40 27 (.agg #[.int .i64 x0, .int .i64 x1, .int .i64 x2, .int .i64 x3, .int .i64 x4, .int .i64 x5, .int .i64 x6, .int .i64 x7, .int .i64 x8, .int .i64 x9, .int .i64 x10, .int .i64 x11])
      (.agg #[.int .i64 y0, .int .i64 y1, .int .i64 y2, .int .i64 y3, .int .i64 y4, .int .i64 y5, .int .i64 y6, .int .i64 y7, .int .i64 y8, .int .i64 y9, .int .i64 y10, .int .i64 y11]) =
      eqInts [(x0, y0), (x1, y1), (x2, y2), (x3, y3), (x4, y4), (x5, y5), (x6, y6), (x7, y7), (x8, y8), (x9, y9), (x10, y10), (x11, y11)] := by kernel_rfl

theorem eqInts_same : ∀ (l : List (Int × Int)), (∀ x ∈ l, x.1 = x.2) → eqInts l = some true
  | [], _ => rfl
  | (a, b) :: r, h => by
    have : a = b := h (a, b) (List.mem_cons_self ..)
    subst this
    simp only [eqInts, decide_true]
    exact eqInts_same r (fun x hx => h x (List.mem_cons_of_mem _ hx))

/-! ## one Event -/

theorem put1_ok {m : Mem} {lab : Lab} {q bs rs : Nat} {σ : Sig} {e : Ev} {k : Nat} {Q : Value → Mem → Prop} (hw : Wf m) (hq : q ≠ 0) (h : StatsAt m lab q bs rs σ) (hk : Small σ k) (hkn : k + 1 ≤ 1000000)
    (hQ : ∀ m' lab', StatsAt m' lab' q bs rs (putM σ e) → StepS m lab m' lab' q → Q (.tuple #[]) m') :
    CallW cx 10 [.pointer (some ⟨bs, 0, none⟩), .slice (some ⟨m.nx, 0, none⟩) 1 1] (AX.newO m (row [.int .i64 e.At, .int .i64 e.Kind, .int .i64 e.Who, .int .i64 e.N] 29 false)) Q := by
  have hR : Row (AX.newO m (row [.int .i64 e.At, .int .i64 e.Kind, .int .i64 e.Who, .int .i64 e.N] 29 false)) m.nx _ 29 false := Row.newO
  have hl : ∀ b, b < m.nx → (fun b => if b = m.nx then ((0, 0, 0) : Nat × Int × Nat) else lab b) b = lab b := fun b hb => by
    show (if b = m.nx then _ else lab b) = lab b
    rw [if_neg (by omega)]
  have hg : ∀ b, b < m.nx → (AX.newO m (row [.int .i64 e.At, .int .i64 e.Kind, .int .i64 e.Who, .int .i64 e.N] 29 false)).hp.get b = m.hp.get b := fun b hb => by rw [newO_get, if_neg (by omega)]
  refine putAll_ok (es := [e]) (lab := fun b => if b = m.nx then (0, 0, 0) else lab b) hw.newO (h.keep hw rfl (fun b hb _ => hg b hb) hl) ⟨rfl, fun i x hx => ?_⟩ (fun b o hb _ => ?_) hk hkn ?_
  · cases i with
    | zero => simp at hx; subst hx; exact ⟨m.nx, 0, rfl, hR.rd.trans rfl, hR.rd.trans rfl, hR.rd.trans rfl, hR.rd.trans rfl⟩
    | succ i => simp at hx
  · cases hb
    exact ⟨Nat.lt_succ_self _, by simp only [if_true]; exact fun e => hq e.symm⟩
  · intro m' lab' hS st
    refine hQ m' lab' hS ⟨st.wf, by have := st.nx; simp at this; omega, st.fl, fun b hb => (st.labs b (by simp; omega)).trans (hl b hb), fun b hb hn => ?_⟩
    exact (st.get b (by simp; omega) (fun e1 => hn ((congrArg (fun x : Nat × Int × Nat => x.1) (hl b hb)).symm.trans e1))).trans (hg b hb)

theorem putM_who {σ τ : Sig} {who : Int} (h : σ who = τ who) (e : Ev) : putM σ e who = putM τ e who := by
  unfold putM
  split
  · exact h
  · unfold updS
    by_cases hw : who = e.Who
    · rw [if_pos hw, if_pos hw, ← hw, h]
    · rw [if_neg hw, if_neg hw, h]

theorem putM_other {σ : Sig} {who : Int} {e : Ev} (h : e.Who ≠ who) : putM σ e who = σ who := by
  unfold putM
  split
  · rfl
  · unfold updS
    rw [if_neg (fun e1 => h e1.symm)]

/-! ## an argument of Events -/

section
open Go.ChangeShapes Go.WideShapes Go.Deep
variable {H : Type} {enc : TypeId × Value → H} {w : World}

theorem ev_arg {r : Reach} {b0 : Nat} {v : Value} {d : DataW H} {ps : List MemPlace} (hval : Value.okWide Try.prog w r b0 22 v) (hd : DataW.Trod enc Try.prog w 0 (fun _ => true) true 22 v d ps) :
    ∃ a n c es, v = .slice a n c ∧ goodA (nOf Try.prog w) (.slice a n c) = true ∧ EvS (mW Try.prog w) a n es ∧ (∀ e ∈ es, EvOk e) ∧ ∀ b o, a = some ⟨b, o, none⟩ → n ≠ 0 → b < (mW Try.prog w).nx := by
  obtain ⟨a, n, c, h1, _, h2, h3⟩ := slice_fields (fs := match Try.prog.underlying 29 with | some (.struct fs) => fs | _ => #[]) (e := 29) Try.underlying22 (by kernel_rfl) (by kernel_rfl) (by kernel_rfl) (by decide +kernel) hval hd
  obtain ⟨es, h4, h5⟩ := list_of (n := n) (R := fun i (e : Ev) => (∃ b o, a = some ⟨b, o, none⟩ ∧ rd (mW Try.prog w) b (o + i * 4) = some (.int .i64 e.At) ∧ rd (mW Try.prog w) b (o + i * 4 + 1) = some (.int .i64 e.Kind) ∧ rd (mW Try.prog w) b (o + i * 4 + 2) = some (.int .i64 e.Who) ∧ rd (mW Try.prog w) b (o + i * 4 + 3) = some (.int .i64 e.N)) ∧ EvOk e) (by
    intro i hi
    obtain ⟨b, o, ha, _, hf⟩ := h3 i hi
    have field : ∀ (j : Nat) (t : TypeId), ((match Try.prog.underlying 29 with | some (.struct fs) => fs | _ => #[])[j]?).map (·.type) = some t → Try.prog.underlying t = some (.int .i64) → ∃ n, rd (mW Try.prog w) b (o + i * 4 + j) = some (.int .i64 n) ∧ -9223372036854775808 ≤ n ∧ n ≤ 9223372036854775807 := by
      intro j t hj hu
      obtain ⟨f, hj2, hj3⟩ := Option.map_eq_some_iff.1 hj
      subst hj3
      obtain ⟨x, y, k, hc, ht'⟩ := hf j f hj2
      exact rd_int hu hc ht'
    obtain ⟨n0, p0, _, q0⟩ := field 0 2 (by kernel_rfl) Try.underlying2
    obtain ⟨n1, p1, _, q1⟩ := field 1 3 (by kernel_rfl) Try.underlying3
    obtain ⟨n2, p2, _, q2⟩ := field 2 3 (by kernel_rfl) Try.underlying3
    obtain ⟨n3, p3, _, q3⟩ := field 3 2 (by kernel_rfl) Try.underlying2
    exact ⟨⟨n0, n1, n2, n3⟩, ⟨b, o, ha, p0, p1, p2, p3⟩, q0⟩)
  refine ⟨a, n, c, es, h1, h2, ⟨h4, fun i e he => (h5 i e he).1⟩, fun e he => ?_, fun b o ha hn => ?_⟩
  · obtain ⟨i, hi⟩ := List.getElem?_of_mem he
    exact (h5 i e hi).2
  · obtain ⟨b', o', ha', hb, _⟩ := h3 0 (by omega)
    rw [ha] at ha'; cases ha'
    exact Nat.lt_of_lt_of_le hb (Nat.le_max_left _ _)

end

end Go.Proofs.Ytcnjgpidlhndhaa.vc
