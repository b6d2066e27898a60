/-
  'Rows.StatPlaysSaid': the law StatPlays, called with whatever Events and numbers, returns true and leaves its arguments. No condition narrows it.
-/
import Derived.Test.YtcnjgpidlhndhaaStat
import Derived.WalkKit
import Derived.ProofKit
import Derived.OpenShut
import Derived.KernelRfl
namespace Go.Proofs.Ytcnjgpidlhndhaa.vc
open Go Go.AX
set_option linter.unusedVariables false
set_option linter.unusedSimpArgs false

theorem Small.none2 : Small (fun _ => none) 0 := (fun _ _ e => nomatch e)
theorem GoodS.none2 : GoodS (fun _ => none) 0 := (fun _ _ e => nomatch e)

/-! ## the last release -/

def isRel (e : Ev) (who N : Int) : Prop := e.Kind = 1 ∧ e.Who = who ∧ e.N = N ∧ 0 ≤ e.At
instance (e : Ev) (who N : Int) : Decidable (isRel e who N) := by unfold isRel; infer_instance

def lastRel (l : List Ev) (who N : Int) : Option Int := l.foldl (fun acc e => if isRel e who N then some e.At else acc) none

theorem lastRel_snoc (l : List Ev) (e : Ev) (who N : Int) : lastRel (l ++ [e]) who N = if isRel e who N then some e.At else lastRel l who N := by
  unfold lastRel; rw [List.foldl_append]; rfl

theorem done_since (X : Own) (t n : Int) : (X.done t n).since = X.since := by
  unfold Own.done
  split
  · rfl
  · split <;> rfl

theorem put_since (X : Own) (t k n N : Int) : (X.put t k n).since N = if k = 1 ∧ n = N then some t else X.since N := by
  by_cases h1 : k = 1
  · unfold Own.put
    rw [if_pos h1]
    by_cases h2 : N = n
    · subst h2; simp [h1]
    · simp [h1, h2, Ne.symm h2]
  · rw [if_neg (fun h : k = 1 ∧ n = N => h1 h.1)]
    unfold Own.put
    rw [if_neg h1]
    by_cases h2 : k = 2
    · rw [if_pos h2, done_since]
    · rw [if_neg h2]
      repeat' split
      all_goals rfl

theorem snoc_ind {α : Type} {P : List α → Prop} (h0 : P []) (h1 : ∀ l a, P l → P (l ++ [a])) (l : List α) : P l := by
  have : ∀ l : List α, P l.reverse := by
    intro l
    induction l with
    | nil => exact h0
    | cons a l ih => rw [List.reverse_cons]; exact h1 _ _ ih
  have h := this l.reverse
  rwa [List.reverse_reverse] at h

theorem since_last {who : Int} (h0 : 0 ≤ who) (l : List Ev) (N : Int) : ((l.foldl putM (fun _ => none) who).getD Own.zero).since N = lastRel l who N := by
  induction l using snoc_ind with
  | h0 => rfl
  | h1 l e ih =>
    rw [lastRel_snoc, List.foldl_append, List.foldl_cons, List.foldl_nil]
    generalize l.foldl putM (fun _ => none) = σ at ih
    unfold putM
    by_cases hb : e.Who < 0 ∨ e.At < 0
    · rw [if_pos hb, ih, if_neg]
      rintro ⟨_, h2, _, h4⟩
      omega
    · rw [if_neg hb]
      unfold updS
      by_cases hw : who = e.Who
      · rw [if_pos hw]
        show ((σ e.Who).getD Own.zero |>.put e.At e.Kind e.N).since N = _
        rw [put_since, ← hw, ih]
        by_cases hc : e.Kind = 1 ∧ e.N = N
        · rw [if_pos hc, if_pos ⟨hc.1, hw.symm, hc.2, by omega⟩]
        · rw [if_neg hc, if_neg (fun h => hc ⟨h.1, h.2.2.1⟩)]
      · rw [if_neg hw, ih, if_neg (fun h => hw h.2.1.symm)]

theorem last_skip {l : List Ev} {who N : Int} : ∀ {i k : Nat}, k ≤ i → (∀ j e, k ≤ j → j < i → l[j]? = some e → ¬ isRel e who N) → lastRel (l.take i) who N = lastRel (l.take k) who N := by
  intro i
  induction i with
  | zero => intro k hk _; have : k = 0 := by omega
            subst this; rfl
  | succ i ih =>
    intro k hk h
    by_cases hki : k = i + 1
    · subst hki; rfl
    · rw [List.take_add_one]
      cases he : l[i]? with
      | none => simpa using ih (by omega) (fun j e a b c => h j e a (by omega) c)
      | some e =>
        simp only [Option.toList_some]
        rw [lastRel_snoc, if_neg (h i e (by omega) (by omega) he)]
        exact ih (by omega) (fun j e a b c => h j e a (by omega) c)

theorem last_found {l : List Ev} {who N : Int} {i k : Nat} {e : Ev} (hk : k < i) (he : l[k]? = some e) (hr : isRel e who N) (h : ∀ j e, k + 1 ≤ j → j < i → l[j]? = some e → ¬ isRel e who N) : lastRel (l.take i) who N = some e.At := by
  rw [last_skip (by omega) h, List.take_add_one, he]
  simp only [Option.toList_some]
  rw [lastRel_snoc, if_pos hr]

theorem joinK_intro {α : Type} {j : α} {f : α → Prop} (R : α → Prop) (hj : R j) (hf : ∀ J, R J → f J) : joinK j f := hf j hj

def Own.ints (X : Own) : List Value := [.int .i64 X.rel, .int .i64 X.don, .int .i64 X.abo, .int .i64 X.wai, .int .i64 X.tur, .int .i64 X.gra, .int .i64 X.dea, .int .i64 X.gat, .int .i64 X.wak, .int .i64 X.opn, .int .i64 X.wor, .int .i64 X.sum]

/-- memory turned at one block alone -/
structure KeepW (m9 m : Mem) (bw : Nat) : Prop where
  wf : Wf m
  nx : m9.nx ≤ m.nx
  fl : m.fl = m9.fl
  get : ∀ b, b < m9.nx → b ≠ bw → m.hp.get b = m9.hp.get b

theorem KeepW.refl {m : Mem} {bw : Nat} (h : Wf m) : KeepW m m bw := ⟨h, Nat.le_refl _, rfl, fun _ _ _ => rfl⟩
theorem KeepW.bump {m9 m : Mem} {bw n : Nat} (h : KeepW m9 m bw) : KeepW m9 (AX.bump m n) bw := ⟨h.wf.bump, by have := h.nx; simp; omega, h.fl, h.get⟩
theorem KeepW.wr {m9 m : Mem} {bw o : Nat} {l : List Value} (h : KeepW m9 m bw) : KeepW m9 (AX.wr m bw o l) bw := ⟨h.wf.wr, by have := h.nx; simpa using this, by simpa using h.fl, fun b hb hn => by rw [wr_get hn]; exact h.get b hb hn⟩

/-- a release, a done .. is told of one: but for what is open -/
def Own.but (X X' : Own) : Own := { X' with opn := X.opn }

theorem done_opn (X : Own) (t n : Int) : (X.done t n).opn = X.opn := by
  unfold Own.done
  split
  · rfl
  · split <;> rfl

theorem put_opn (X : Own) (t k n : Int) : (X.put t k n).opn = if k = 1 then addI .i64 X.opn 1 else if k = 2 ∨ k = 3 then mxI (subI .i64 X.opn 1) 0 else X.opn := by
  unfold Own.put
  by_cases h1 : k = 1
  · rw [if_pos h1, if_pos h1]
  · rw [if_neg h1, if_neg h1]
    by_cases h2 : k = 2
    · rw [if_pos h2, if_pos (.inl h2), done_opn]
    · rw [if_neg h2]
      by_cases h3 : k = 3
      · rw [if_pos h3, if_pos (.inr h3)]
      · rw [if_neg h3, if_neg (show ¬ (k = 2 ∨ k = 3) by omega)]
        repeat' split
        all_goals rfl

theorem but_self {X X' : Own} (h : X'.opn = X.opn) : X.but X' = X' := by
  unfold Own.but; rw [← h]

theorem plays_law {m : Mem} (hw : Wf m) {a0 : Option Addr} {n0 c0 : Nat} {es : List Ev} (he : EvS m a0 n0 es) (hok : ∀ e ∈ es, EvOk e) (hb0 : ∀ b o, a0 = some ⟨b, o, none⟩ → n0 ≠ 0 → b < m.nx) (who p : Int) :
    F3 a0 n0 c0 who p m fun r _ => r = .bool true := by
  unfold F3
  refine awake_ok ⟨true, rfl, ?_⟩
  rw [show (!true) = false from rfl, splitB_false]
  rw [splitB_iff]
  refine ⟨fun _ => rfl, fun h200 => ?_⟩
  rw [ltI_false] at h200
  have hn0 : n0 ≤ 200 := by simp [lenI] at h200; omega
  have hlen := he.1
  refine new_ok (lab := fun _ => (0, 0, 0)) (q := 1) hw ?_
  intro m2 bs rs lab2 hS2 st2 g2
  refine ⟨_, rfl, ?_⟩
  rw [mBind_iff]
  refine ⟨Row.newO.okW (by simpa using st2.wf.1) (by simp), ?_⟩
  rw [mBind_iff]
  generalize hm4 : AX.wr (AX.newO m2 _) m2.nx 0 _ = m4
  have hR4 : Row m4 m2.nx Own.zero.ints 27 false := hm4 ▸ Row.newO.wr (o := 0) (by simp)
  have hw4 : Wf m4 := hm4 ▸ st2.wf.newO.wr
  have nx4 : m4.nx = m2.nx + 1 := by rw [← hm4]; simp
  have fl4 : m4.fl = m2.fl := by rw [← hm4]; simp
  have g4 : ∀ b, b < m2.nx → m4.hp.get b = m2.hp.get b := fun b hb => by rw [← hm4, wr_get (by omega), newO_get, if_neg (by omega)]
  have nx2 := st2.nx
  generalize hbw : m2.nx = bw at *
  have hflbw : m4.fl ≤ bw := by rw [fl4, ← hbw]; exact st2.wf.1
  have l4 : ∀ b, b < bw → (fun b => if b = bw then ((0, 0, 0) : Nat × Int × Nat) else lab2 b) b = lab2 b := fun b hb => by
    show (if b = bw then _ else lab2 b) = lab2 b
    rw [if_neg (by omega)]
  have hS4 : StatsAt m4 (fun b => if b = bw then (0, 0, 0) else lab2 b) 1 bs rs (fun _ => none) := hS2.keep st2.wf fl4 (fun b hb _ => g4 b (by omega)) (fun b hb => l4 b (by omega))
  refine ⟨fun th late x m5 k => ∃ i : Nat, x = i ∧ i ≤ n0 ∧ k = n0 - i ∧ ∃ lab5, Wf m5 ∧ m4.nx ≤ m5.nx ∧ m5.fl = m4.fl ∧ StatsAt m5 lab5 1 bs rs ((es.take i).foldl putM fun _ => none) ∧ lab5 bw = (0, 0, 0) ∧
      Row m5 bw (((es.take i).foldl putM (fun _ => none) who).getD Own.zero).ints 27 false ∧ th = ((es.take i).foldl putM (fun _ => none) who).isSome ∧ late = lateN (((es.take i).foldl putM (fun _ => none) who).getD Own.zero).times p ∧
      (∀ b, b < m.nx → m5.hp.get b = m.hp.get b ∧ lab5 b = (0, 0, 0)),
    ⟨n0, 0, rfl, by omega, by omega, _, hw4, Nat.le_refl _, rfl, hS4, by simp, hR4, rfl, rfl, fun b hb => ⟨(g4 b (by omega)).trans (g2 b hb), (l4 b (by omega)).trans (st2.labs b hb)⟩⟩, ?_⟩
  rintro th late x m5 k ⟨i, rfl, hi, rfl, lab5, hw5, nx5, fl5, hS5, lbw5, hR5, rfl, rfl, hold⟩
  have hsm : Small ((es.take i).foldl putM fun _ => none) 1000 := by
    have := Small.none2.fold (l := es.take i)
    exact this.mono (by simp; omega)
  have hgood : GoodS ((es.take i).foldl putM fun _ => none) 1000 := fun w X hX =>
    ((GoodS.none2.fold (l := es.take i) (by simp; omega) (fun e h => hok e (List.mem_of_mem_take h))) w X hX).mono (by simp; omega)
  rw [splitB_iff]
  refine ⟨fun hlt => ?_, fun hge => ?_⟩
  · rw [ltI_true] at hlt
    have hlt' : i < n0 := by simpa [lenI] using hlt
    refine ⟨⟨by omega, by omega⟩, ?_⟩
    obtain ⟨e, hei⟩ : ∃ e, es[i]? = some e := ⟨_, List.getElem?_eq_getElem (by omega)⟩
    have heok : EvOk e := hok e (List.mem_of_getElem? hei)
    obtain ⟨b, o, ha, hA, hK, hW, hN⟩ := he.2 i e hei
    have hb := hb0 b o ha (by omega)
    have hgb := (hold b hb).1
    subst ha
    have hfold : (es.take (i + 1)).foldl putM (fun _ => none) = putM ((es.take i).foldl putM fun _ => none) e := by
      rw [List.take_add_one, hei]; simp
    simp only [vPtr_some, Int.toNat_natCast]
    refine ⟨e.At, (rd_congr hgb).trans hA, e.Kind, (rd_congr hgb).trans hK, e.Who, (rd_congr hgb).trans hW, e.N, (rd_congr hgb).trans hN, ?_⟩
    rw [mBind_iff]
    refine ⟨Row.newO.okW (by simpa using hw5.1) (by simp), ?_⟩
    rw [mBind_iff]
    generalize hm7 : AX.wr (AX.newO m5 _) m5.nx 0 _ = m7
    have hE7 : Row m7 m5.nx [Value.int IntKind.i64 e.At, Value.int IntKind.i64 e.Kind, Value.int IntKind.i64 e.Who, Value.int IntKind.i64 e.N] 29 false := hm7 ▸ Row.newO.wr (o := 0) (by simp)
    have hw7 : Wf m7 := hm7 ▸ hw5.newO.wr
    have nx7 : m7.nx = m5.nx + 1 := by rw [← hm7]; simp
    have fl7 : m7.fl = m5.fl := by rw [← hm7]; simp
    have g7 : ∀ b, b < m5.nx → m7.hp.get b = m5.hp.get b := fun b hb => by rw [← hm7, wr_get (by omega), newO_get, if_neg (by omega)]
    refine ⟨e.At, hE7.rd.trans rfl, e.Kind, hE7.rd.trans rfl, e.Who, hE7.rd.trans rfl, e.N, hE7.rd.trans rfl, ?_⟩
    rw [mBind_iff]
    generalize hbe : m5.nx = be at *
    have hbwbe : bw < be := by omega
    have l7 : ∀ b, b < be → (fun b => if b = be then ((0, 0, 0) : Nat × Int × Nat) else lab5 b) b = lab5 b := fun b hb => by
      show (if b = be then _ else lab5 b) = lab5 b
      rw [if_neg (by omega)]
    have hS7 : StatsAt m7 (fun b => if b = be then (0, 0, 0) else lab5 b) 1 bs rs _ := hS5.keep hw5 fl7 (fun b hb _ => g7 b (by omega)) (fun b hb => l7 b (by omega))
    refine put1_ok hw7 (by omega) hS7 hsm (by omega) ?_
    intro m9 lab9 hS9 st9
    have nx9 := st9.nx
    have g9 : ∀ b, b < m7.nx → ((fun b => if b = be then ((0, 0, 0) : Nat × Int × Nat) else lab5 b) b).1 ≠ 1 → m9.hp.get b = m7.hp.get b := st9.get
    have gE9 : m9.hp.get be = m7.hp.get be := g9 be (by omega) (by simp)
    have lbw7 : (fun b => if b = be then ((0, 0, 0) : Nat × Int × Nat) else lab5 b) bw = (0, 0, 0) := (l7 bw hbwbe).trans lbw5
    have gbw9 : m9.hp.get bw = m5.hp.get bw := (g9 bw (by omega) (by rw [lbw7]; simp)).trans (g7 bw hbwbe)
    have hE9 := hE7.congr gE9
    have hR9 := hR5.congr gbw9
    have hold9 : ∀ b, b < m.nx → m9.hp.get b = m.hp.get b ∧ lab9 b = (0, 0, 0) := fun b hb => by
      have h1 := hold b hb
      have h2 := l7 b (by omega)
      exact ⟨(g9 b (by omega) (by rw [h2, h1.2]; simp)).trans ((g7 b (by omega)).trans h1.1), (st9.labs b (by omega)).trans (h2.trans h1.2)⟩
    have lbw9 : lab9 bw = (0, 0, 0) := (st9.labs bw (by omega)).trans lbw7
    have fl9 : m9.fl = m4.fl := by rw [st9.fl, fl7, fl5]
    refine ⟨rfl, ?_⟩
    rw [joinK]
    have hRW : ∀ {Y : Own} {o : Nat} {v : Value} {m8 : Mem}, Row m8 bw Y.ints 27 false → o < 12 → Row (AX.wr m8 bw o [v]) bw (Y.ints.set o v) 27 false := fun h ho => h.wr1 (by simpa [Own.ints] using ho)
    have flk : ∀ {m8 : Mem}, KeepW m9 m8 bw → m8.fl ≤ bw := fun h => by rw [h.fl, fl9]; exact hflbw
    have okk : ∀ {Y : Own} {o : Nat} {m8 : Mem}, KeepW m9 m8 bw → Row m8 bw Y.ints 27 false → o < 12 → okW m8 bw o 1 := fun h h2 ho => h2.okW (flk h) (by simp [Own.ints]; omega)
    have rde : ∀ {m8 : Mem} (o : Nat), KeepW m9 m8 bw → rd m8 be o = [Value.int IntKind.i64 e.At, Value.int IntKind.i64 e.Kind, Value.int IntKind.i64 e.Who, Value.int IntKind.i64 e.N][o]? := fun o h => (rd_congr (h.get be (by omega) (by omega))).trans hE9.rd
    have back : ∀ th' late' m8, KeepW m9 m8 bw → Row m8 bw ((putM ((es.take i).foldl putM fun _ => none) e who).getD Own.zero).ints 27 false → th' = (putM ((es.take i).foldl putM fun _ => none) e who).isSome →
        late' = lateN ((putM ((es.take i).foldl putM fun _ => none) e who).getD Own.zero).times p →
        ∃ n2 : Nat, n2 < n0 - i ∧ ∃ i' : Nat, addI .i64 (i : Int) 1 = (i' : Int) ∧ i' ≤ n0 ∧ n2 = n0 - i' ∧ ∃ lab5, Wf m8 ∧ m4.nx ≤ m8.nx ∧ m8.fl = m4.fl ∧ StatsAt m8 lab5 1 bs rs ((es.take i').foldl putM fun _ => none) ∧ lab5 bw = (0, 0, 0) ∧
          Row m8 bw (((es.take i').foldl putM (fun _ => none) who).getD Own.zero).ints 27 false ∧ th' = ((es.take i').foldl putM (fun _ => none) who).isSome ∧ late' = lateN (((es.take i').foldl putM (fun _ => none) who).getD Own.zero).times p ∧
          (∀ b, b < m.nx → m8.hp.get b = m.hp.get b ∧ lab5 b = (0, 0, 0)) := by
      intro th' late' m8 hk h1 h2 h3
      have := hk.nx
      refine ⟨n0 - (i + 1), by omega, i + 1, wrapNat (by omega), by omega, rfl, lab9, hk.wf, by omega, by rw [hk.fl, fl9], ?_, lbw9, by rw [hfold]; exact h1, by rw [hfold]; exact h2, by rw [hfold]; exact h3, fun b hb => ⟨(hk.get b (by omega) (by omega)).trans (hold9 b hb).1, (hold9 b hb).2⟩⟩
      rw [hfold]
      exact hS9.keep st9.wf hk.fl (fun b hb h => hk.get b hb (fun e1 => by rw [e1, lbw9] at h; simp at h)) (fun _ _ => rfl)
    have hk9 : KeepW m9 m9 bw := KeepW.refl st9.wf
    refine ⟨e.Who, hE9.rd.trans rfl, ?_⟩
    rw [splitB_iff]
    refine ⟨fun hne => ?_, fun heq => ?_⟩
    · rw [neI_true] at hne
      have hsame := putM_other (σ := (es.take i).foldl putM fun _ => none) hne
      exact back _ _ m9 hk9 (by rw [hsame]; exact hR9) (by rw [hsame]) (by rw [hsame])
    rw [neI_false] at heq
    refine ⟨e.Who, hE9.rd.trans rfl, ?_⟩
    rw [splitB_iff]
    refine ⟨fun hneg => ?_, fun hpos => ?_⟩
    · rw [ltI_true] at hneg
      have hsame : putM ((es.take i).foldl putM fun _ => none) e = (es.take i).foldl putM fun _ => none := by unfold putM; rw [if_pos (.inl hneg)]
      exact back _ _ m9 hk9 (by rw [hsame]; exact hR9) (by rw [hsame]) (by rw [hsame])
    rw [ltI_false] at hpos
    refine ⟨e.At, hE9.rd.trans rfl, ?_⟩
    rw [splitB_iff]
    refine ⟨fun hneg => ?_, fun hpos2 => ?_⟩
    · rw [ltI_true] at hneg
      have hsame : putM ((es.take i).foldl putM fun _ => none) e = (es.take i).foldl putM fun _ => none := by unfold putM; rw [if_pos (.inr hneg)]
      exact back _ _ m9 hk9 (by rw [hsame]; exact hR9) (by rw [hsame]) (by rw [hsame])
    rw [ltI_false] at hpos2
    have hwho : 0 ≤ who := by omega
    have hlast := since_last hwho (es.take i) e.N
    have hG : Good (((es.take i).foldl putM (fun _ => none) who).getD Own.zero) 1000 := by
      cases hs : (es.take i).foldl putM (fun _ => none) who with
      | none => exact Good.zero.mono (by omega)
      | some Y => exact hgood _ _ hs
    have hnew : putM ((es.take i).foldl putM fun _ => none) e who = some ((((es.take i).foldl putM (fun _ => none) who).getD Own.zero).put e.At e.Kind e.N) := by
      unfold putM; rw [if_neg (by omega)]; unfold updS; rw [if_pos heq.symm, heq]
    rw [hnew] at back
    simp only [Option.getD_some, Option.isSome_some] at back
    generalize ((es.take i).foldl putM (fun _ => none) who).getD Own.zero = X at *
    have hopn := put_opn X e.At e.Kind e.N
    generalize hX' : X.put e.At e.Kind e.N = X' at *
    have hGs := hG.sum
    have hGo := hG.opn
    refine joinK_intro (fun J => ∀ m8, KeepW m9 m8 bw → Row m8 bw (X.but X').ints 27 false → J (lateN X'.times p) m8) ?_ ?_
    · -- what is open
      intro m11 hk11 hR11
      refine joinK_intro (fun J => ∀ m12, KeepW m9 m12 bw → Row m12 bw (if e.Kind = 1 then X' else X.but X').ints 27 false → J m12) ?_ ?_
      · intro m12 hk12 hR12
        refine joinK_intro (fun J => ∀ b m13, KeepW m9 m13 bw → Row m13 bw (if e.Kind = 1 then X' else X.but X').ints 27 false → (b = true ↔ (e.Kind = 2 ∨ e.Kind = 3) ∧ 0 < X.opn) → J b m13) ?_ ?_
        · intro b m13 hk13 hR13 hb13
          rw [splitB_iff]
          refine ⟨fun hb => ?_, fun hb => ?_⟩
          · obtain ⟨hk23, ho⟩ := hb13.1 hb
            rw [if_neg (by omega)] at hR13
            refine ⟨X.opn, hR13.rd.trans rfl, okk hk13 hR13 (by omega), ?_⟩
            rw [mBind_iff]
            refine back _ _ _ hk13.wr ?_ rfl rfl
            have h1 := hRW (v := .int .i64 (subI .i64 X.opn 1)) hR13 (show 9 < 12 by omega)
            have h2 : X'.opn = subI .i64 X.opn 1 := by
              rw [hopn, if_neg (by omega), if_pos hk23, subI_64 (by omega) (by omega)]
              have := mxI_le (X.opn - 1) 0
              have := mxI_or (X.opn - 1) 0
              omega
            have h3 : (X.but X').ints.set 9 (.int .i64 (subI .i64 X.opn 1)) = X'.ints := by rw [← h2]; rfl
            rw [h3] at h1
            exact h1
          · refine back _ _ _ hk13 ?_ rfl rfl
            have h1 : ¬ ((e.Kind = 2 ∨ e.Kind = 3) ∧ 0 < X.opn) := fun h => by rw [hb13.2 h] at hb; cases hb
            by_cases hk1 : e.Kind = 1
            · rwa [if_pos hk1] at hR13
            · rw [if_neg hk1] at hR13
              rwa [but_self] at hR13
              rw [hopn, if_neg hk1]
              by_cases hk23 : e.Kind = 2 ∨ e.Kind = 3
              · rw [if_pos hk23, subI_64 (by omega) (by omega)]
                have := mxI_le (X.opn - 1) 0
                have := mxI_or (X.opn - 1) 0
                omega
              · rw [if_neg hk23]
        · intro J hJ
          have hopn12 : e.Kind ≠ 1 → rd m12 bw 9 = some (.int .i64 X.opn) := fun h => by rw [if_neg h] at hR12; exact hR12.rd.trans rfl
          refine ⟨e.Kind, (rde 1 hk12).trans rfl, ?_⟩
          rw [splitB_iff]
          refine ⟨fun h2 => ?_, fun h2 => ?_⟩
          · rw [eqI_true] at h2
            exact ⟨X.opn, hopn12 (by omega), hJ _ _ hk12 hR12 (by rw [ltI_true]; exact ⟨fun h => ⟨.inl h2, h⟩, fun h => h.2⟩)⟩
          · rw [eqI_false] at h2
            refine ⟨e.Kind, (rde 1 hk12).trans rfl, ?_⟩
            rw [splitB_iff]
            refine ⟨fun h3 => ?_, fun h3 => ?_⟩
            · rw [eqI_true] at h3
              exact ⟨X.opn, hopn12 (by omega), hJ _ _ hk12 hR12 (by rw [ltI_true]; exact ⟨fun h => ⟨.inr h3, h⟩, fun h => h.2⟩)⟩
            · rw [eqI_false] at h3
              exact hJ _ _ hk12 hR12 ⟨fun h => (by cases h), fun h => (by omega)⟩
      · intro J hJ
        refine ⟨e.Kind, (rde 1 hk11).trans rfl, ?_⟩
        rw [splitB_iff]
        refine ⟨fun h1 => ?_, fun h1 => ?_⟩
        · rw [eqI_true] at h1
          refine ⟨X.opn, hR11.rd.trans rfl, okk hk11 hR11 (by omega), ?_⟩
          rw [mBind_iff]
          refine hJ _ hk11.wr ?_
          rw [if_pos h1]
          have h2 := hRW (v := .int .i64 (addI .i64 X.opn 1)) hR11 (show 9 < 12 by omega)
          have h3 : (X.but X').ints.set 9 (.int .i64 (addI .i64 X.opn 1)) = X'.ints := by
            have : X'.opn = addI .i64 X.opn 1 := by rw [hopn, if_pos h1]
            rw [← this]; rfl
          rw [h3] at h2
          exact h2
        · rw [eqI_false] at h1
          exact hJ _ hk11 (by rw [if_neg h1]; exact hR11)
    · intro J8 hJ8
      have one : ∀ (o : Nat) (v : Value), o < 12 → (X.but X').ints = X.ints.set o v → X'.times = X.times → okW m9 bw o 1 ∧ mBind (AX.wr m9 bw o [v]) fun m16 => J8 (lateN X.times p) m16 := by
        intro o v ho h1 h2
        refine ⟨okk hk9 hR9 ho, ?_⟩
        rw [mBind_iff, ← h2]
        exact hJ8 _ hk9.wr (by rw [h1]; exact hRW hR9 ho)
      refine ⟨e.Kind, hE9.rd.trans rfl, ?_⟩
      rw [splitB_iff]
      refine ⟨fun hk1 => ?_, fun hk1 => ?_⟩
      · rw [eqI_true] at hk1
        have hp : X' = { X with rel := addI .i64 X.rel 1, opn := addI .i64 X.opn 1, since := fun j => if j = e.N then some e.At else X.since j } := by rw [← hX', Own.put, if_pos hk1]
        exact ⟨X.rel, hR9.rd.trans rfl, one 0 _ (by omega) (by rw [hp]; rfl) (by rw [hp])⟩
      rw [eqI_false] at hk1
      rw [splitB_iff]
      refine ⟨fun hk2 => ?_, fun hk2 => ?_⟩
      · rw [eqI_true] at hk2
        have hp2 : X' = Own.done { X with don := addI .i64 X.don 1, opn := mxI (subI .i64 X.opn 1) 0 } e.At e.N := by rw [← hX', Own.put, if_neg hk1, if_pos hk2]
        refine ⟨X.don, hR9.rd.trans rfl, okk hk9 hR9 (by omega), ?_⟩
        rw [mBind_iff]
        have hR17 : Row (AX.wr m9 bw 1 [.int .i64 (addI .i64 X.don 1)]) bw (Own.ints { X with don := addI .i64 X.don 1 }) 27 false := by
          have h := hRW (v := .int .i64 (addI .i64 X.don 1)) hR9 (show 1 < 12 by omega)
          exact h
        have hk17 : KeepW m9 (AX.wr m9 bw 1 [.int .i64 (addI .i64 X.don 1)]) bw := hk9.wr
        have evs : ∀ (m18 : Mem) (j : Nat) (e' : Ev), KeepW m9 m18 bw → es[j]? = some e' → rd m18 b (o + j * 4) = some (.int .i64 e'.At) ∧ rd m18 b (o + j * 4 + 1) = some (.int .i64 e'.Kind) ∧ rd m18 b (o + j * 4 + 2) = some (.int .i64 e'.Who) ∧ rd m18 b (o + j * 4 + 3) = some (.int .i64 e'.N) := by
          intro m18 j e' hk18 hej
          obtain ⟨b', o', ha', hA', hK', hW', hN'⟩ := he.2 j e' hej
          cases ha'
          have hg : m18.hp.get b = m.hp.get b := (hk18.get b (by omega) (by omega)).trans (hold9 b hb).1
          exact ⟨(rd_congr hg).trans hA', (rd_congr hg).trans hK', (rd_congr hg).trans hW', (rd_congr hg).trans hN'⟩
        refine ⟨fun x10 x13 m18 n => x10 = lateN X.times p ∧ ∃ k : Nat, x13 = (k : Int) - 1 ∧ k ≤ i ∧ n = k ∧ (∀ j e', k ≤ j → j < i → es[j]? = some e' → ¬ isRel e' who e.N) ∧ KeepW m9 m18 bw ∧ Row m18 bw (Own.ints { X with don := addI .i64 X.don 1 }) 27 false,
          ⟨i, rfl, i, subI_64 (by omega) (by omega), Nat.le_refl _, rfl, fun j e' h1 h2 => by omega, hk17, hR17⟩, ?_⟩
        rintro x10 x13 m18 n ⟨rfl, k, rfl, hki, rfl, hno, hk18, hR18⟩
        rw [splitB_iff]
        refine ⟨fun hge => ?_, fun hlt0 => ?_⟩
        · rw [leI_true] at hge
          obtain ⟨k, rfl⟩ : ∃ k', n = k' + 1 := ⟨n - 1, by omega⟩
          have hk1' : ((k + 1 : Nat) : Int) - 1 = (k : Int) := by omega
          rw [hk1']
          obtain ⟨e', hek⟩ : ∃ e', es[k]? = some e' := ⟨_, List.getElem?_eq_getElem (by omega)⟩
          have hknn : k < n0 := by omega
          refine joinK_intro (fun J => ∀ c m19, KeepW m9 m19 bw → Row m19 bw (Own.ints { X with don := addI .i64 X.don 1 }) 27 false → (c = true ↔ isRel e' who e.N) → J c m19) ?_ ?_
          · intro c m19 hk19 hR19 hc
            rw [splitB_iff]
            refine ⟨fun hct => ?_, fun hcf => ?_⟩
            · have hrel := hc.1 hct
              have hfound := last_found (by omega) hek hrel hno
              rw [hfound] at hlast
              rw [mBind_iff]
              refine ⟨⟨by omega, by omega⟩, ?_⟩
              simp only [vPtr_some, Int.toNat_natCast]
              have hk20 := hk19.bump (n := 8)
              refine ⟨e'.At, (evs _ k e' hk20 hek).1, e.At, (rde 0 hk20).trans rfl, ?_⟩
              rw [splitB_iff]
              refine ⟨fun hle => ?_, fun hgt => ?_⟩
              · rw [leI_true] at hle
                rw [mBind_iff]
                have hk21 := hk20.bump (n := 9)
                have hR21 : Row (AX.bump (AX.bump m19 8) 9) bw (Own.ints { X with don := addI .i64 X.don 1 }) 27 false := hR19
                generalize AX.bump (AX.bump m19 8) 9 = m21 at hk21 hR21
                refine ⟨e.At, (rde 0 hk21).trans rfl, ⟨by omega, by omega⟩, e'.At, (evs _ k e' hk21 hek).1, ?_⟩
                have hdone : X' = { X with don := addI .i64 X.don 1, opn := mxI (subI .i64 X.opn 1) 0, times := X.times ++ [subI .i64 e.At e'.At], wor := mxI X.wor (subI .i64 e.At e'.At), sum := if subI .i64 4611686018427387904 X.sum < subI .i64 e.At e'.At then 4611686018427387904 else addI .i64 X.sum (subI .i64 e.At e'.At) } := by
                  rw [hp2]
                  unfold Own.done
                  show (match X.since e.N with | none => _ | some t => _) = _
                  rw [hlast]
                  simp only [if_neg (show ¬ e.At < e'.At by omega)]
                generalize hd : subI .i64 e.At e'.At = dd at *
                refine joinK_intro (fun J => ∀ m22, KeepW m9 m22 bw → Row m22 bw (Own.ints { X with don := addI .i64 X.don 1, wor := mxI X.wor dd }) 27 false → J m22) ?_ ?_
                · intro m22 hk22 hR22
                  refine joinK_intro (fun J => ∀ m23, KeepW m9 m23 bw → Row m23 bw (Own.ints { X with don := addI .i64 X.don 1, wor := mxI X.wor dd }) 27 false → J (lateN X'.times p) m23) ?_ ?_
                  · intro m23 hk23 hR23
                    refine joinK_intro (fun J => ∀ c m24, KeepW m9 m24 bw → Row m24 bw (Own.ints { X with don := addI .i64 X.don 1, wor := mxI X.wor dd }) 27 false → (c = true ↔ subI .i64 4611686018427387904 X.sum < dd) → J c m24) ?_ ?_
                    · intro c m24 hk24 hR24 hc24
                      rw [splitB_iff]
                      refine ⟨fun hc1 => ?_, fun hc0 => ?_⟩
                      · refine ⟨okk hk24 hR24 (by omega), ?_⟩
                        rw [mBind_iff]
                        refine hJ8 _ hk24.wr ?_
                        have h1 := hRW (v := .int .i64 4611686018427387904) hR24 (show 11 < 12 by omega)
                        have h2 : (X.but X').ints = (Own.ints { X with don := addI .i64 X.don 1, wor := mxI X.wor dd }).set 11 (.int .i64 4611686018427387904) := by
                          rw [hdone, if_pos (hc24.1 hc1)]; rfl
                        rw [h2]; exact h1
                      · refine ⟨X.sum, hR24.rd.trans rfl, okk hk24 hR24 (by omega), ?_⟩
                        rw [mBind_iff]
                        refine hJ8 _ hk24.wr ?_
                        have h1 := hRW (v := .int .i64 (addI .i64 X.sum dd)) hR24 (show 11 < 12 by omega)
                        have h2 : (X.but X').ints = (Own.ints { X with don := addI .i64 X.don 1, wor := mxI X.wor dd }).set 11 (.int .i64 (addI .i64 X.sum dd)) := by
                          rw [hdone, if_neg (fun h => by rw [hc24.2 h] at hc0; cases hc0)]; rfl
                        rw [h2]; exact h1
                    · intro J27 hJ27
                      refine ⟨X.sum, hR23.rd.trans rfl, ?_⟩
                      rw [splitB_iff]
                      refine ⟨fun h => ?_, fun h => ⟨X.sum, hR23.rd.trans rfl, hJ27 _ _ hk23 hR23 ltI_true⟩⟩
                      rw [ltI_true] at h; omega
                  · intro J25 hJ25
                    have ht : X'.times = X.times ++ [dd] := by rw [hdone]
                    have hsn := lateN_snoc X.times dd p
                    have hle1 := lateN_le X.times p
                    have hdn := hG.don
                    rw [splitB_iff]
                    refine ⟨fun h => ?_, fun h => ?_⟩
                    · rw [ltI_true] at h
                      have := hJ25 m22 hk22 hR22
                      rw [ht, hsn, if_pos h] at this
                      rwa [addI_64 (by omega) (by omega)]
                    · rw [ltI_false] at h
                      have := hJ25 m22 hk22 hR22
                      rw [ht, hsn, if_neg (by omega)] at this
                      simpa using this
                · intro J24 hJ24
                  refine ⟨X.wor, hR21.rd.trans rfl, ?_⟩
                  rw [splitB_iff]
                  refine ⟨fun h => ?_, fun h => ?_⟩
                  · rw [ltI_true] at h
                    refine ⟨okk hk21 hR21 (by omega), ?_⟩
                    rw [mBind_iff]
                    refine hJ24 _ hk21.wr ?_
                    have h1 := hRW (v := .int .i64 dd) hR21 (show 10 < 12 by omega)
                    have h2 : mxI X.wor dd = dd := by unfold mxI; rw [if_pos h]
                    rw [h2]; exact h1
                  · rw [ltI_false] at h
                    refine hJ24 _ hk21 ?_
                    have h2 : mxI X.wor dd = X.wor := by unfold mxI; rw [if_neg (by omega)]
                    rw [h2]; exact hR21
              · rw [leI_false] at hgt
                have hdone : X' = { X with don := addI .i64 X.don 1, opn := mxI (subI .i64 X.opn 1) 0 } := by
                  rw [hp2]
                  unfold Own.done
                  show (match X.since e.N with | none => _ | some t => _) = _
                  rw [hlast]
                  simp only [if_pos hgt]
                have := hJ8 _ hk20 (by rw [hdone]; exact hR19)
                rw [hdone] at this
                exact this
            · have hnrel : ¬ isRel e' who e.N := fun h => by rw [hc.2 h] at hcf; cases hcf
              refine ⟨k, by omega, rfl, k, subI_64 (by omega) (by omega), by omega, rfl, fun j e2 h1 h2 h3 => ?_, hk19, hR19⟩
              by_cases hjk : j = k
              · subst hjk; rw [hek] at h3; cases h3; exact hnrel
              · exact hno j e2 (by omega) h2 h3
          · intro J19 hJ19
            rw [mBind_iff]
            have hk28 := hk18.bump (n := 33)
            have hR28 : Row (AX.bump m18 33) bw (Own.ints { X with don := addI .i64 X.don 1 }) 27 false := hR18
            generalize AX.bump m18 33 = m28 at hk28 hR28
            obtain ⟨q0, q1, q2, q3⟩ := evs _ k e' hk28 hek
            have hno19 : ¬ isRel e' who e.N → J19 false m28 := fun h => hJ19 false m28 hk28 hR28 ⟨(fun h2 => nomatch h2), (fun h2 => (h h2).elim)⟩
            refine ⟨⟨by omega, by omega⟩, ?_⟩
            simp only [vPtr_some, Int.toNat_natCast]
            refine ⟨e'.Kind, q1, ?_⟩
            rw [splitB_iff]
            refine ⟨fun h1 => ?_, fun h1 => hno19 (fun h => by rw [eqI_false] at h1; exact h1 h.1)⟩
            refine ⟨⟨by omega, by omega⟩, e'.Who, q2, ?_⟩
            rw [splitB_iff]
            refine ⟨fun h2 => ?_, fun h2 => hno19 (fun h => by rw [eqI_false] at h2; exact h2 h.2.1)⟩
            refine ⟨⟨by omega, by omega⟩, e'.N, q3, e.N, (rde 3 hk28).trans rfl, ?_⟩
            rw [splitB_iff]
            refine ⟨fun h3 => ?_, fun h3 => hno19 (fun h => by rw [eqI_false] at h3; exact h3 h.2.2.1)⟩
            refine ⟨⟨by omega, by omega⟩, e'.At, q0, ?_⟩
            rw [eqI_true] at h1 h2 h3
            exact hJ19 _ m28 hk28 hR28 (by rw [leI_true]; exact ⟨fun h => ⟨h1, h2, h3, h⟩, fun h => h.2.2.2⟩)
        · rw [leI_false] at hlt0
          have hk0 : n = 0 := by omega
          subst hk0
          have hnone : lastRel (es.take i) who e.N = none := by
            rw [last_skip (Nat.zero_le i) (fun j e' h1 h2 h3 => hno j e' h1 h2 h3)]; rfl
          rw [hnone] at hlast
          have hdone : X' = { X with don := addI .i64 X.don 1, opn := mxI (subI .i64 X.opn 1) 0 } := by
            rw [hp2]
            unfold Own.done
            show (match X.since e.N with | none => _ | some t => _) = _
            rw [hlast]
          have := hJ8 _ hk18 (by rw [hdone]; exact hR18)
          rw [hdone] at this
          exact this
      rw [eqI_false] at hk2
      rw [splitB_iff]
      refine ⟨fun hk3 => ?_, fun hk3 => ?_⟩
      · rw [eqI_true] at hk3
        have hp : X' = { X with abo := addI .i64 X.abo 1, opn := mxI (subI .i64 X.opn 1) 0 } := by rw [← hX', Own.put, if_neg hk1, if_neg hk2, if_pos hk3]
        exact ⟨X.abo, hR9.rd.trans rfl, one 2 _ (by omega) (by rw [hp]; rfl) (by rw [hp])⟩
      rw [eqI_false] at hk3
      rw [splitB_iff]
      refine ⟨fun hk4 => ?_, fun hk4 => ?_⟩
      · rw [eqI_true] at hk4
        have hp : X' = { X with wai := addI .i64 X.wai 1 } := by rw [← hX']; simp [Own.put, hk4]
        exact ⟨X.wai, hR9.rd.trans rfl, one 3 _ (by omega) (by rw [hp]; rfl) (by rw [hp])⟩
      rw [eqI_false] at hk4
      rw [splitB_iff]
      refine ⟨fun hk5 => ?_, fun hk5 => ?_⟩
      · rw [eqI_true] at hk5
        have hp : X' = { X with tur := addI .i64 X.tur 1 } := by rw [← hX']; simp [Own.put, hk5]
        exact ⟨X.tur, hR9.rd.trans rfl, one 4 _ (by omega) (by rw [hp]; rfl) (by rw [hp])⟩
      rw [eqI_false] at hk5
      rw [splitB_iff]
      refine ⟨fun hk6 => ?_, fun hk6 => ?_⟩
      · rw [eqI_true] at hk6
        have hp : X' = { X with gra := addI .i64 X.gra 1 } := by rw [← hX']; simp [Own.put, hk6]
        exact ⟨X.gra, hR9.rd.trans rfl, one 5 _ (by omega) (by rw [hp]; rfl) (by rw [hp])⟩
      rw [eqI_false] at hk6
      rw [splitB_iff]
      refine ⟨fun hk7 => ?_, fun hk7 => ?_⟩
      · rw [eqI_true] at hk7
        have hp : X' = { X with dea := addI .i64 X.dea 1 } := by rw [← hX']; simp [Own.put, hk7]
        exact ⟨X.dea, hR9.rd.trans rfl, one 6 _ (by omega) (by rw [hp]; rfl) (by rw [hp])⟩
      rw [eqI_false] at hk7
      rw [splitB_iff]
      refine ⟨fun hk8 => ?_, fun hk8 => ?_⟩
      · rw [eqI_true] at hk8
        have hp : X' = { X with gat := addI .i64 X.gat 1 } := by rw [← hX']; simp [Own.put, hk8]
        exact ⟨X.gat, hR9.rd.trans rfl, one 7 _ (by omega) (by rw [hp]; rfl) (by rw [hp])⟩
      rw [eqI_false] at hk8
      rw [splitB_iff]
      refine ⟨fun hk10 => ?_, fun hk10 => ?_⟩
      · rw [eqI_true] at hk10
        have hp : X' = { X with wak := addI .i64 X.wak 1 } := by rw [← hX']; simp [Own.put, hk10]
        exact ⟨X.wak, hR9.rd.trans rfl, one 8 _ (by omega) (by rw [hp]; rfl) (by rw [hp])⟩
      rw [eqI_false] at hk10
      have hp : X' = X := by rw [← hX']; simp [Own.put, hk1, hk2, hk3, hk4, hk5, hk6, hk7, hk8, hk10]
      have := hJ8 m9 hk9 (by rw [hp, but_self rfl]; exact hR9)
      rw [hp] at this
      exact this
  · rw [ltI_false] at hge
    have hin : i = n0 := by simp [lenI] at hge; omega
    generalize (es.take i).foldl putM (fun _ => none) = σ at *
    refine of_ok hw5 hS5 ?_
    intro m36 hw36 nx36 fl36 g36
    refine ⟨_, _, _, _, _, _, _, _, _, _, _, _, _, rfl, ?_⟩
    rw [mBind_iff]
    refine ⟨Row.newO.okW (by simpa using hw36.1) (by simp), ?_⟩
    rw [mBind_iff]
    generalize hX : (σ who).getD Own.zero = X at *
    generalize hm38 : AX.wr (AX.newO m36 _) m36.nx 0 _ = m38
    have hR38 : Row m38 m36.nx (over _ 0 _) 27 false := hm38 ▸ Row.newO.wr (o := 0) (by simp)
    have hw38 : Wf m38 := hm38 ▸ hw36.newO.wr
    have g38 : ∀ b, b < m5.nx → m38.hp.get b = m5.hp.get b := fun b hb' => by rw [← hm38, wr_get (by omega), newO_get, if_neg (by omega), g36 b hb']
    have fl38 : m38.fl = m5.fl := by rw [← hm38]; simp [fl36]
    have hW38 : Row m38 bw X.ints 27 false := hR5.congr (g38 bw (by omega))
    rw [splitB_iff]
    refine ⟨fun _ => ?_, fun hne => ?_⟩
    · iterate 12 refine ⟨_, hR38.rd.trans rfl, ?_⟩
      iterate 12 refine ⟨_, hW38.rd.trans rfl, ?_⟩
      refine ⟨true, ?_, ?_⟩
      · rw [eq27]
        refine eqInts_same _ ?_
        intro x hx
        simp at hx
        rcases hx with rfl | rfl | rfl | rfl | rfl | rfl | rfl | rfl | rfl | rfl | rfl | rfl <;> rfl
      · rw [splitB_true]
        have hS38 : StatsAt m38 lab5 1 bs rs σ := hS5.keep hw5 fl38 (fun b hb _ => g38 b hb) (fun _ _ => rfl)
        refine late_ok hS38 (hsm.mono (by omega)) rfl ⟨_, rfl, ?_⟩
        rw [hX, eqI_true.2 rfl]
    · simp at hne

end Go.Proofs.Ytcnjgpidlhndhaa.vc

namespace Go.Proofs.Ytcnjgpidlhndhaa.statPlays
open Go Go.ChangeShapes Go.WideShapes Go.ChangeAt Go.RowKit Go.AX
set_option linter.unusedVariables false

theorem own : ownKnob Try.prog.godebug = none := by kernel_rfl

theorem walk {H : Type} {enc : TypeId × Value → H} (W : World) (args : Array Value) (ds : List (DataW H)) (p : List MemPlace) (hA : DataW.TrodAll enc Try.prog W 0 (fun _ => true) true [22, 3, 2] args.toList ds p)
    (hval : ∀ (j : Nat) t v, ([22, 3, 2] : List TypeId)[j]? = some t → args.toList[j]? = some v → Value.okWide Try.prog W .any 0 t v) :
    Calls Try.prog 3 args W (fun e w' => e = .returned (.bool true) ∧ Below W.heap.size W w') ∧ ∃ d1 d2 d3, ds = [d1, d2, d3] := by
  obtain ⟨l⟩ := args
  simp only at hA hval
  obtain ⟨v1, vs1, d1, ds1, p1, q1, rfl, rfl, rfl, h1, hA⟩ := trodAll_cons hA
  obtain ⟨v2, vs2, d2, ds2, p2, q2, rfl, rfl, rfl, h2, hA⟩ := trodAll_cons hA
  obtain ⟨v3, vs3, d3, ds3, p3, q3, rfl, rfl, rfl, h3, hA⟩ := trodAll_cons hA
  obtain ⟨rfl, rfl, rfl⟩ := trodAll_nil hA
  refine ⟨?_, d1, d2, d3, rfl⟩
  obtain ⟨a, n, c, es, rfl, hg, he, hok, hb⟩ := vc.ev_arg (hval 0 _ _ rfl rfl) h1
  obtain ⟨n2, rfl, _⟩ := open_int Try.underlying3 (hval 1 _ _ rfl rfl) h2
  obtain ⟨n3, rfl, _⟩ := open_int Try.underlying2 (hval 2 _ _ rfl rfl) h3
  refine open_true (ann := vc.A3) vc.cxOk vc.ovOk vc.hmix W _ (by kernel_rfl : vc.cx.fn.get 3 = some Try.f3) ?_ ?_
  · simp only [List.all_cons, hg]; rfl
  · exact Eq.mp (vc.F3_eq a n c n2 n3 _ _) (vc.plays_law (mW_wf _ _) he hok hb n2 n3)

set_option maxRecDepth 100000 in
theorem lifted (os : Os) (started : os.Started) (H : Type) (enc : TypeId × Value → H) :
    ReturnsInHanded {} Try.checked os 3 .any (Rows.statPlaysSpec.pre6 enc Try.prog Try.f3 Rows.statPlaysRow.domain false) (Rows.statPlaysSpec.post enc Try.prog Try.f3 false true false false) := by
  refine returnsInHanded_of_change (C := Try.checked) own started (by kernel_rfl) Try.func3
    (ChangeSpec.witness6 (enc := enc) (C := Try.checked) false ⟨#[], #[.slice none 0 0, .int .i64 0, .int .i64 0], []⟩ 8 (by kernel_rfl) (by kernel_rfl) (by kernel_rfl) (by kernel_rfl)) ?_
  intro W base args ds gs before hval0 hW hcnd _
  have hval : ∀ (j : Nat) t v, Try.f3.params[j]? = some t → args[j]? = some v → Value.okWide Try.prog W .any base t v := hval0
  have hW' := hW
  obtain ⟨p, q, hA0, hV, rfl, hfz, hnd⟩ := hW
  have hA : DataW.TrodAll enc Try.prog W 0 (fun _ => true) true Try.f3.params.toList args.toList ds p := hA0
  rw [Try.params3] at hA hval
  obtain ⟨rfl, rfl⟩ := trodVars_none hV
  clear hA0 hval0
  simp only [List.append_nil] at hW'
  have hval' : ∀ (j : Nat) t v, ([22, 3, 2] : List TypeId)[j]? = some t → args.toList[j]? = some v → Value.okWide Try.prog W .any base t v := fun j t v h1 h2 => hval j t v (by simpa using h1) (by simpa using h2)
  obtain ⟨hc, d1, d2, d3, rfl⟩ := walk (enc := enc) W args ds p hA hval'
  refine hc.mono fun e W' ⟨he, hg⟩ => ?_
  subst he
  exact ⟨_, rfl, post_law Try.underlying4 (by kernel_rfl) rfl rfl (by kernel_rfl) (by rw [Try.params3]; exact hW') (by rw [Try.params3]; exact hA) hg⟩

theorem over : Rows.statPlaysRow.holds Try.pinned (OpenSpec.ofChange Rows.statPlaysSpec) :=
  OpenClaim.holds_of_wide 3 Try.f3 rfl rfl rfl rfl rfl rfl rfl ⟨rfl, rfl, rfl, rfl, rfl⟩ rfl rfl rfl rfl rfl (by kernel_rfl) Try.func3 (by kernel_rfl)
    (of_decide_eq_true (by kernel_rfl)) (by unfold Func.isWrapper; first | (rw [if_pos (by decide +kernel)]; kernel_rfl) | (rw [if_neg (by decide +kernel)]; exact ⟨rfl, rfl⟩))
    (fun os started H enc _ => lifted os started H enc)

theorem proved : Rows.StatPlaysSaid :=
  over
#print axioms proved
end Go.Proofs.Ytcnjgpidlhndhaa.statPlays
