/-
  'Rows.StatPartsSaid': the law StatParts, called with whatever Events and number, returns true and leaves its arguments. No condition narrows it.
-/
import Derived.Test.YtcnjgpidlhndhaaStat
import Derived.Test.YtcnjgpidlhndhaaAxSl
import Derived.Test.YtcnjgpidlhndhaaAxArr
import Derived.WalkKit
import Derived.ProofKit
import Derived.OpenShut
import Derived.KernelRfl
namespace Go.Proofs.Ytcnjgpidlhndhaa.vc
open Go Go.AX
set_option linter.unusedVariables false
set_option linter.unusedSimpArgs false

theorem Small.nil : Small (fun _ => none) 0 := (fun _ _ e => nomatch e)
theorem GoodS.nil : GoodS (fun _ => none) 0 := (fun _ _ e => nomatch e)

/-- whom Events are of -/
def whosOf (es : List Ev) : List Int := es.map (·.Who)
theorem putM_dom {σ : Sig} {e : Ev} {w : Int} (h : putM σ e w ≠ none) : σ w ≠ none ∨ (w = e.Who ∧ 0 ≤ w) := by
  unfold putM at h
  split at h
  · exact .inl h
  · rename_i hn
    unfold updS at h
    by_cases hw : w = e.Who
    · exact .inr ⟨hw, by omega⟩
    · rw [if_neg hw] at h; exact .inl h
theorem fold_dom : ∀ {es : List Ev} {σ : Sig} {w : Int}, es.foldl putM σ w ≠ none → σ w ≠ none ∨ (w ∈ whosOf es ∧ 0 ≤ w)
  | [], _, _, h => .inl h
  | e :: r, σ, w, h => by
    rcases fold_dom (es := r) (σ := putM σ e) h with h1 | ⟨h1, h2⟩
    · rcases putM_dom h1 with h1 | ⟨h1, h2⟩
      · exact .inl h1
      · exact .inr ⟨by rw [h1]; exact List.mem_cons_self .., h2⟩
    · exact .inr ⟨List.mem_cons_of_mem _ h1, h2⟩

theorem all_ok {m : Mem} {lab : Lab} {q bs rs : Nat} {σ : Sig} {L : List Int} {Q : Value → Mem → Prop} (hw : Wf m) (h : StatsAt m lab q bs rs σ) (hr : ∀ w, σ w ≠ none → 0 ≤ w ∧ w ≤ 9223372036854775807) (hL : ∀ w, σ w ≠ none → w ∈ L) (hl : L.length ≤ 1000000)
    (hQ : ∀ m' a n c (ks : List Int), Keep m m' → SlIs m' a n (ks.map (.int .i64 ·)) → ks.Pairwise (· < ·) → (∀ w : Int, w ∈ ks ↔ σ w ≠ none) → Q (.slice a n c) m') : CallW cx 13 [.pointer (some ⟨bs, 0, none⟩)] m Q := by
  obtain ⟨e, x, hrow⟩ := h.row
  obtain ⟨f, hM, hf⟩ := h.map
  have hfs : ∀ w, f w ≠ none ↔ σ w ≠ none := fun w => by
    rcases hf w with ⟨h1, h2⟩ | ⟨b, X, r, a, n, c, _, h1, h2, _⟩
    · rw [h1, h2]; simp
    · rw [h1, h2]; simp
  obtain ⟨ks, e1, hn, hm⟩ := keysA_at (et := 3) hrow hM (fun w hw => by have := hr w ((hfs w).1 hw); omega) (fun w hw => hL w ((hfs w).1 hw)) hl
  refine CallW.ov (f := Go.AX.keysA 3) (r := (Go.AX.sortedA 3 ks m).1) (m' := (Go.AX.sortedA 3 ks m).2) (by kernel_rfl) e1 ?_
  refine sortedA_at (G := fun p => Q p.1 p.2) hw hn fun m' a n c l k hS hl hm2 => ?_
  exact hQ m' a n c l k hS hl fun w => (hm2 w).trans ((hm w).trans (hfs w))

theorem sorted_same {l k : List Int} (hl : l.Pairwise (· < ·)) (hk : k.Pairwise (· < ·)) (h : ∀ x, x ∈ l ↔ x ∈ k) : l = k := by
  have n1 : l.Nodup := hl.imp fun h => by omega
  have n2 : k.Nodup := hk.imp fun h => by omega
  exact List.Perm.eq_of_pairwise (le := fun a b : Int => a < b) (fun a b _ _ h1 h2 => by omega) hl hk ((List.perm_ext_iff_of_nodup n1 n2).2 h)

/-! ## an argument, cut -/

def Cut (m : Mem) (a : Option Addr) (n c : Nat) : Prop := n ≤ c ∧ (a = none ∨ c = 0 ∨ ∃ b o cc k, a = some ⟨b, o, none⟩ ∧ m.hp.get b = some (.ro cc k))

theorem Cut.congr {m m' : Mem} {a : Option Addr} {n c : Nat} (h : Cut m a n c) (hg : ∀ b o, a = some ⟨b, o, none⟩ → c ≠ 0 → m'.hp.get b = m.hp.get b) : Cut m' a n c := by
  obtain ⟨h1, h2 | h2 | ⟨b, o, cc, kk, h3, h4⟩⟩ := h
  · exact ⟨h1, .inl h2⟩
  · exact ⟨h1, .inr (.inl h2)⟩
  · by_cases hc : c = 0
    · exact ⟨h1, .inr (.inl hc)⟩
    · exact ⟨h1, .inr (.inr ⟨b, o, cc, kk, h3, by rw [hg b o h3 hc]; exact h4⟩)⟩

theorem un22 : cx.un.get 22 = some (.slice 29) := by kernel_rfl
theorem sz29 : sizeT cx 29 = some 4 := by kernel_rfl

theorem cut_ok {m : Mem} {a : Option Addr} {n c lo hi : Nat} {vlo vhi : Option Value} {es : List Ev} (hC : Cut m a n c) (hE : EvS m a n es) (hlo : lo ≤ hi) (hhi : hi ≤ n) (h1 : boundA n vhi c = some hi) (h2 : boundA 0 vlo hi = some lo) :
    ∃ a' c', sliceOp cx m 22 (.slice a n c) vlo vhi none = some (.slice a' (hi - lo) c') ∧ EvS m a' (hi - lo) ((es.take hi).drop lo) ∧ (∀ b o, a' = some ⟨b, o, none⟩ → hi - lo ≠ 0 → ∃ o', a = some ⟨b, o', none⟩) := by
  obtain ⟨hnc, hC⟩ := hC
  have hlen := hE.1
  have nil : ∀ a', hi - lo = 0 → EvS m a' (hi - lo) ((es.take hi).drop lo) := fun a' e => by
    have e0 : (es.take hi).drop lo = [] := List.drop_eq_nil_of_le (by simp; omega)
    rw [e0, e]
    exact ⟨rfl, fun i e he => nomatch he⟩
  cases a with
  | none =>
    have : n = 0 := by
      cases es with
      | nil => exact hlen.symm
      | cons x r => obtain ⟨b, o, e, _⟩ := hE.2 0 _ rfl; cases e
    refine ⟨none, c - lo, ?_, nil _ (by omega), fun b o e => nomatch e⟩
    unfold sliceOp
    simp only [un22, sz29, h1, h2]
  | some ad =>
    rcases hC with h3 | h3 | ⟨b, o, cc, k, h3, h4⟩
    · cases h3
    · subst h3
      have hn0 : n = 0 := by omega
      have hi0 : hi = 0 := by omega
      have hlo0 : lo = 0 := by omega
      subst hn0; subst hi0; subst hlo0
      unfold sliceOp
      simp only [un22, sz29, h1, h2]
      split
      · exact ⟨_, _, rfl, nil _ rfl, fun b o e h => absurd rfl h⟩
      · exact ⟨_, _, rfl, nil _ rfl, fun b o e h => absurd rfl h⟩
    · cases h3
      refine ⟨some ⟨b, o + lo * 4, none⟩, c - lo, ?_, ⟨by rw [List.length_drop, List.length_take]; omega, fun j e hj => ?_⟩, fun b' o' e _ => ?_⟩
      · unfold sliceOp
        simp only [un22, sz29, h1, h2]
        have hs : sameSize cx m b 4 = true := by
          unfold sameSize
          simp only [h4]
        rw [hs, Nat.ble_eq_true_of_le (show hi ≤ c by omega)]
        simp [addA]
      · rw [List.getElem?_drop] at hj
        have hlt : lo + j < hi := by
          have := (List.getElem?_eq_some_iff.1 hj).1
          simp at this; omega
        rw [List.getElem?_take_of_lt hlt] at hj
        obtain ⟨b', o', e', h5, h6, h7, h8⟩ := hE.2 _ _ hj
        cases e'
        have es' : o + lo * 4 + j * 4 = o + (lo + j) * 4 := by omega
        exact ⟨b, _, rfl, by rw [es']; exact h5, by rw [es']; exact h6, by rw [es']; exact h7, by rw [es']; exact h8⟩
      · cases e; exact ⟨o, rfl⟩

section
open Go.ChangeShapes Go.WideShapes Go.Deep
variable {H : Type} {enc : TypeId × Value → H} {w : World}

theorem ev_arg2 {r : Reach} {b0 : Nat} {v : Value} {d : DataW H} {ps : List MemPlace} (hval : Value.okWide Try.prog w r b0 22 v) (hd : DataW.Trod enc Try.prog w 0 (fun _ => true) true 22 v d ps) :
    ∃ a n c es, v = .slice a n c ∧ goodA (nOf Try.prog w) (.slice a n c) = true ∧ EvS (mW Try.prog w) a n es ∧ (∀ e ∈ es, EvOk e ∧ e.Who ≤ 9223372036854775807) ∧ (∀ b o, a = some ⟨b, o, none⟩ → c ≠ 0 → b < (mW Try.prog w).nx) ∧ Cut (mW Try.prog w) a n c := by
  have hd0 := hd
  obtain ⟨a, n, c, h1, _, h2, h3⟩ := slice_fields (fs := match Try.prog.underlying 29 with | some (.struct fs) => fs | _ => #[]) (e := 29) Try.underlying22 (by kernel_rfl) (by kernel_rfl) (by kernel_rfl) (by decide +kernel) hval hd
  obtain ⟨es, h4, h5⟩ := list_of (n := n) (R := fun i (e : Ev) => (∃ b o, a = some ⟨b, o, none⟩ ∧ rd (mW Try.prog w) b (o + i * 4) = some (.int .i64 e.At) ∧ rd (mW Try.prog w) b (o + i * 4 + 1) = some (.int .i64 e.Kind) ∧ rd (mW Try.prog w) b (o + i * 4 + 2) = some (.int .i64 e.Who) ∧ rd (mW Try.prog w) b (o + i * 4 + 3) = some (.int .i64 e.N)) ∧ (EvOk e ∧ e.Who ≤ 9223372036854775807)) (by
    intro i hi
    obtain ⟨b, o, ha, _, hf⟩ := h3 i hi
    have field : ∀ (j : Nat) (t : TypeId), ((match Try.prog.underlying 29 with | some (.struct fs) => fs | _ => #[])[j]?).map (·.type) = some t → Try.prog.underlying t = some (.int .i64) → ∃ n, rd (mW Try.prog w) b (o + i * 4 + j) = some (.int .i64 n) ∧ -9223372036854775808 ≤ n ∧ n ≤ 9223372036854775807 := by
      intro j t hj hu
      obtain ⟨f, hj2, hj3⟩ := Option.map_eq_some_iff.1 hj
      subst hj3
      obtain ⟨x, y, k, hc, ht'⟩ := hf j f hj2
      exact rd_int hu hc ht'
    obtain ⟨n0, p0, _, q0⟩ := field 0 2 (by kernel_rfl) Try.underlying2
    obtain ⟨n1, p1, _, q1⟩ := field 1 3 (by kernel_rfl) Try.underlying3
    obtain ⟨n2, p2, _, q2⟩ := field 2 3 (by kernel_rfl) Try.underlying3
    obtain ⟨n3, p3, _, q3⟩ := field 3 2 (by kernel_rfl) Try.underlying2
    exact ⟨⟨n0, n1, n2, n3⟩, ⟨b, o, ha, p0, p1, p2, p3⟩, q0, q2⟩)
  have hcut : Cut (mW Try.prog w) a n c := by
    subst h1
    obtain ⟨fuel, hf⟩ := hd0
    rcases open_fields (fs := match Try.prog.underlying 29 with | some (.struct fs) => fs | _ => #[]) (e := 29) Try.underlying22 (by kernel_rfl) (by kernel_rfl) (by kernel_rfl) hf with h6 | ⟨a', n', c', m, h6, hl, hm, hmm, hi⟩
    · simp only [Value.cells, List.cons.injEq, Value.slice.injEq, and_true] at h6
      obtain ⟨rfl, rfl, rfl⟩ := h6
      exact ⟨Nat.le_refl _, .inl rfl⟩
    · simp only [Value.cells, List.cons.injEq, Value.slice.injEq, and_true] at h6
      obtain ⟨rfl, rfl, rfl⟩ := h6
      have hmc : c = m := Eq.symm hmm
      subst hmc
      refine ⟨hl, ?_⟩
      by_cases hc : c = 0
      · exact .inr (.inl hc)
      · obtain ⟨f, hf0⟩ : ∃ f, (match Try.prog.underlying 29 with | some (.struct fs) => fs | _ => #[])[0]? = some f := ⟨_, Array.getElem?_eq_getElem (by decide +kernel)⟩
        obtain ⟨x, y, k, h7, _⟩ := hi 0 (by omega) 0 f hf0
        have e0 : a'.add (0 * (match Try.prog.underlying 29 with | some (.struct fs) => fs | _ => #[]).size + 0) = a' := by simp [Addr.add]
        rw [e0] at h7
        obtain ⟨b, o, sp⟩ := a'
        have hsp : sp = none := by
          cases sp with
          | none => rfl
          | some s => unfold World.cell? at h7; split at h7 <;> simp at h7
        subst hsp
        have hb := cell_lt h7
        refine .inr (.inr ⟨b, o, ?_⟩)
        have : ∃ cc k, (mW Try.prog w).hp.get b = some (.ro cc k) := by
          show ∃ cc k, (trOf (objOf (nOf Try.prog w) w) w.heap.size).get b = _
          rw [trOf_get, if_pos hb]
          unfold objOf
          unfold World.cell? at h7
          split at h7
          · rename_i heq
            simp only at heq
            rw [heq]
            exact ⟨_, _, rfl⟩
          · simp at h7
        obtain ⟨cc, kk, h8⟩ := this
        exact ⟨cc, kk, rfl, h8⟩
  refine ⟨a, n, c, es, h1, h2, ⟨h4, fun i e he => (h5 i e he).1⟩, fun e he => ?_, fun b o ha hn => ?_, hcut⟩
  · obtain ⟨i, hi⟩ := List.getElem?_of_mem he
    exact (h5 i e hi).2
  · rcases hcut.2 with e | e | ⟨b', o', cc, k, e, h⟩
    · rw [e] at ha; cases ha
    · exact absurd e hn
    · rw [e] at ha; cases ha
      exact Wf.lt (mW_wf _ _) h
end

theorem parts_law {m : Mem} (hw : Wf m) {a : Option Addr} {n c : Nat} {es : List Ev} (he : EvS m a n es) (hok : ∀ e ∈ es, EvOk e ∧ e.Who ≤ 9223372036854775807) (hb : ∀ b o, a = some ⟨b, o, none⟩ → c ≠ 0 → b < m.nx) (hC : Cut m a n c) (x1 : Int) :
    F6 a n c x1 m fun r _ => r = .bool true := by
  unfold F6
  refine awake_ok ⟨true, rfl, ?_⟩
  rw [show (!true) = false from rfl, splitB_false]
  refine joinK_of' (fun J => n ≤ 200 → 0 ≤ x1 → x1 ≤ n → J m) (fun hn h0 h1 => ?_) (fun J hJ => ?_)
  rotate_left
  · refine split_ltI (fun _ => rfl) (fun h1 => split_ltI (fun _ => rfl) (fun h2 => split_ltI (fun _ => rfl) (fun h3 => hJ (by unfold lenI at h1; omega) h2 (by unfold lenI at h3; omega))))
  obtain ⟨cut, rfl⟩ := Int.eq_ofNat_of_zero_le h0
  have hcn : cut ≤ n := by omega
  have hlen := he.1
  have hnc := hC.1
  have hb' : ∀ b o, a = some ⟨b, o, none⟩ → n ≠ 0 → b < m.nx := fun b o e hn => hb b o e (by omega)
  refine new_ok (lab := fun _ => (0, 0, 0)) (q := 1) hw ?_
  intro m3 bs1 rs1 lab3 hA3 st3 g3
  refine ⟨_, rfl, ?_⟩
  refine new_ok (lab := lab3) (q := 2) st3.wf ?_
  intro m4 bs2 rs2 lab4 hB4 st4 g4
  refine ⟨_, rfl, ?_⟩
  have hA4 : StatsAt m4 lab4 1 bs1 rs1 _ := hA3.keep st3.wf st4.fl (fun b hb _ => g4 b hb) st4.labs
  have lab0 : ∀ b, b < m.nx → lab4 b = (0, 0, 0) := fun b hb => (st4.labs b (Nat.lt_of_lt_of_le hb st3.nx)).trans (st3.labs b hb)
  have nx4 : m.nx ≤ m4.nx := Nat.le_trans st3.nx st4.nx
  have g04 : ∀ b, b < m.nx → m4.hp.get b = m.hp.get b := fun b hb => (g4 b (Nat.lt_of_lt_of_le hb st3.nx)).trans (g3 b hb)
  -- all at once
  refine putAll_ok st4.wf hA4 (he.keep (fun b o e h0 => g04 b (hb' b o e h0))) (fun b o e h0 => ⟨Nat.lt_of_lt_of_le (hb' b o e h0) nx4, by rw [lab0 b (hb' b o e h0)]; simp⟩) Small.nil (by omega) ?_
  intro m5 lab5 hA5 st5
  refine ⟨rfl, ?_⟩
  have hB5 : StatsAt m5 lab5 2 bs2 rs2 _ := hB4.keep st4.wf st5.fl (fun b hb h => st5.get b hb (by rw [h]; decide)) st5.labs
  have lab05 : ∀ b, b < m.nx → lab5 b = (0, 0, 0) := fun b hb => (st5.labs b (Nat.lt_of_lt_of_le hb nx4)).trans (lab0 b hb)
  have nx5 : m.nx ≤ m5.nx := Nat.le_trans nx4 st5.nx
  have g05 : ∀ b, b < m.nx → m5.hp.get b = m.hp.get b := fun b hb => (st5.get b (Nat.lt_of_lt_of_le hb nx4) (by rw [lab0 b hb]; decide)).trans (g04 b hb)
  -- in two parts
  obtain ⟨a37, c37, e37, E37, w37⟩ := cut_ok (lo := 0) (hi := cut) (vlo := none) (vhi := some (.int .i64 (cut : Int))) (hC.congr fun b o e h => g05 b (hb b o e h)) (he.keep fun b o e h => g05 b (hb' b o e h)) (Nat.zero_le _) hcn (boundA_some (by omega)) boundA_none
  refine ⟨_, _, _, e37, ?_⟩
  rw [Nat.sub_zero] at E37 w37 ⊢
  rw [List.drop_zero] at E37
  refine putAll_ok st5.wf hB5 E37 (fun b o e h => ?_) Small.nil (by omega) ?_
  · obtain ⟨o', e'⟩ := w37 b o e h
    have hlt := hb' b o' e' (by omega)
    exact ⟨Nat.lt_of_lt_of_le hlt nx5, by rw [lab05 b hlt]; simp⟩
  intro m6 lab6 hB6 st6
  refine ⟨rfl, ?_⟩
  have hA6 : StatsAt m6 lab6 1 bs1 rs1 _ := hA5.keep st5.wf st6.fl (fun b hb h => st6.get b hb (by rw [h]; decide)) st6.labs
  have lab06 : ∀ b, b < m.nx → lab6 b = (0, 0, 0) := fun b hb => (st6.labs b (Nat.lt_of_lt_of_le hb nx5)).trans (lab05 b hb)
  have nx6 : m.nx ≤ m6.nx := Nat.le_trans nx5 st6.nx
  have g06 : ∀ b, b < m.nx → m6.hp.get b = m.hp.get b := fun b hb => (st6.get b (Nat.lt_of_lt_of_le hb nx5) (by rw [lab05 b hb]; decide)).trans (g05 b hb)
  obtain ⟨a42, c42, e42, E42, w42⟩ := cut_ok (lo := cut) (hi := n) (vlo := some (.int .i64 (cut : Int))) (vhi := none) (hC.congr fun b o e h => g06 b (hb b o e h)) (he.keep fun b o e h => g06 b (hb' b o e h)) hcn (Nat.le_refl _) (by unfold boundA; simp [hnc]) (boundA_some hcn)
  refine ⟨_, _, _, e42, ?_⟩
  rw [List.take_of_length_le (by omega)] at E42
  have hsm : Small ((es.take cut).foldl putM fun _ => none) cut := by
    have := Small.nil.fold (l := es.take cut)
    exact this.mono (by simp; omega)
  refine putAll_ok st6.wf hB6 E42 (fun b o e h => ?_) hsm (by omega) ?_
  · obtain ⟨o', e'⟩ := w42 b o e h
    have hlt := hb' b o' e' (by omega)
    exact ⟨Nat.lt_of_lt_of_le hlt nx6, by rw [lab06 b hlt]; simp⟩
  intro m7 lab7 hB7 st7
  refine ⟨rfl, ?_⟩
  have hA7 : StatsAt m7 lab7 1 bs1 rs1 _ := hA6.keep st6.wf st7.fl (fun b hb h => st7.get b hb (by rw [h]; decide)) st7.labs
  rw [← List.foldl_append, List.take_append_drop] at hB7
  have hgood : GoodS (es.foldl putM fun _ => none) n := by
    have := GoodS.nil.fold (l := es) (by omega) (fun e h => (hok e h).1)
    rwa [Nat.zero_add, hlen] at this
  have hdom : ∀ w, (es.foldl putM fun _ => none) w ≠ none → w ∈ whosOf es ∧ 0 ≤ w := fun w h => by
    rcases fold_dom h with h | h
    · exact absurd rfl h
    · exact h
  have hrng : ∀ w, (es.foldl putM fun _ => none) w ≠ none → 0 ≤ w ∧ w ≤ 9223372036854775807 := fun w h => by
    obtain ⟨h1, h2⟩ := hdom w h
    obtain ⟨e, he, rfl⟩ := List.mem_map.1 h1
    exact ⟨h2, (hok e he).2⟩
  have hwl : (whosOf es).length ≤ 1000000 := by unfold whosOf; rw [List.length_map]; omega
  generalize es.foldl putM (fun _ => none) = σ at hA7 hB7 hgood hdom hrng
  refine all_ok st7.wf hA7 hrng (fun w h => (hdom w h).1) hwl fun m8 a45 n45 c45 ks k78 S45 s45 m45 => ⟨_, _, _, rfl, ?_⟩
  have hA8 : StatsAt m8 lab7 1 bs1 rs1 σ := hA7.keep st7.wf k78.fl (fun b hb _ => k78.get b hb) (fun _ _ => rfl)
  have hB8 : StatsAt m8 lab7 2 bs2 rs2 σ := hB7.keep st7.wf k78.fl (fun b hb _ => k78.get b hb) (fun _ _ => rfl)
  refine all_ok k78.wf hB8 hrng (fun w h => (hdom w h).1) hwl fun m9 a47 n47 c47 ks' k89 S47 s47 m47 => ⟨_, _, _, rfl, ?_⟩
  have hkk : ks' = ks := sorted_same s47 s45 fun w => (m47 w).trans (m45 w).symm
  subst hkk
  have S45 := S45.keep k78.wf k89
  have hA9 : StatsAt m9 lab7 1 bs1 rs1 σ := hA8.keep k78.wf k89.fl (fun b hb _ => k89.get b hb) (fun _ _ => rfl)
  have hB9 : StatsAt m9 lab7 2 bs2 rs2 σ := hB8.keep k78.wf k89.fl (fun b hb _ => k89.get b hb) (fun _ _ => rfl)
  have l45 : ks'.length = n45 := by have := S45.1; simpa using this
  have l47 : ks'.length = n47 := by have := S47.1; simpa using this
  obtain rfl : n45 = n47 := l45.symm.trans l47
  have hks : ks'.length ≤ 1000000 := Nat.le_trans (nodup_le (s45.imp fun h => by omega) fun w hw => (hdom w ((m45 w).1 hw)).1) hwl
  refine split_ne (fun h => absurd rfl h) (fun _ => ?_)
  refine forN (n := n45) (by omega) (fun i m10 => Keep m9 m10) (Keep.refl k89.wf) ?_
  intro i m10 hi k910 I wv hI
  refine split_lt (fun hlt => ?_) (fun _ => rfl)
  obtain ⟨w, hw'⟩ : ∃ w, ks'[i]? = some w := ⟨_, List.getElem?_eq_getElem (by omega)⟩
  have hσ : σ w ≠ none := (m45 w).1 (List.mem_of_getElem? hw')
  obtain ⟨X, hX⟩ : ∃ X, σ w = some X := by
    cases h : σ w with
    | none => exact absurd h hσ
    | some X => exact ⟨X, rfl⟩
  have hG := hgood w X hX
  have rdA : ∀ {j : Nat} {v : Int} {M : Mem}, Keep m9 M → ks'[j]? = some v → ∃ b o, a45 = some ⟨b, o, none⟩ ∧ rd M b (o + j) = some (.int .i64 v) := fun kM hj => (S45.keep k89.wf kM).at (by rw [List.getElem?_map, hj]; rfl)
  have rdB : ∀ {j : Nat} {v : Int} {M : Mem}, Keep m9 M → ks'[j]? = some v → ∃ b o, a47 = some ⟨b, o, none⟩ ∧ rd M b (o + j) = some (.int .i64 v) := fun kM hj => (S47.keep k89.wf kM).at (by rw [List.getElem?_map, hj]; rfl)
  obtain ⟨ba, oa, rfl, ra⟩ := rdA k910 hw'
  refine ⟨⟨by omega, by omega⟩, ?_⟩
  rw [vPtr_some]
  refine ⟨w, by simpa using ra, ?_⟩
  have keepA : ∀ M, Keep m9 M → StatsAt M lab7 1 bs1 rs1 σ := fun M k => hA9.keep k89.wf k.fl (fun b hb _ => k.get b hb) (fun _ _ => rfl)
  have keepB : ∀ M, Keep m9 M → StatsAt M lab7 2 bs2 rs2 σ := fun M k => hB9.keep k89.wf k.fl (fun b hb _ => k.get b hb) (fun _ _ => rfl)
  refine of_ok k910.wf (keepA _ k910) fun m11 w11 n11 f11 g11 => ?_
  have k11 : Keep m9 m11 := k910.trans ⟨w11, n11, f11, g11⟩
  rw [hX]
  refine ⟨_, _, _, _, _, _, _, _, _, _, _, _, _, rfl, ?_⟩
  rw [mBind_iff]
  refine ⟨Row.newO.okW (by have := k11.wf.1; simpa using this) (by simp), ?_⟩
  rw [mBind_iff]
  generalize hm13 : AX.wr (AX.newO m11 _) m11.nx 0 _ = m13
  have a13 : Row m13 m11.nx (over _ 0 _) 27 false := hm13 ▸ Row.newO.wr (o := 0) (by simp)
  have k1113 : Keep m11 m13 := hm13 ▸ (Keep.refl k11.wf).newO.wr (Nat.le_refl _)
  have k13 := k11.trans k1113
  obtain ⟨bb, ob, rfl, rb⟩ := rdB k13 hw'
  refine ⟨⟨by omega, by omega⟩, ?_⟩
  rw [vPtr_some]
  refine ⟨w, by simpa using rb, ?_⟩
  refine of_ok k13.wf (keepB _ k13) fun m14 w14 n14 f14 g14 => ?_
  have k1314 : Keep m13 m14 := ⟨w14, n14, f14, g14⟩
  have k14 := k13.trans k1314
  rw [hX]
  refine ⟨_, _, _, _, _, _, _, _, _, _, _, _, _, rfl, ?_⟩
  rw [mBind_iff]
  refine ⟨Row.newO.okW (by have := k14.wf.1; simpa using this) (by simp), ?_⟩
  rw [mBind_iff]
  generalize hm16 : AX.wr (AX.newO m14 _) m14.nx 0 _ = m16
  have b16 : Row m16 m14.nx (over _ 0 _) 27 false := hm16 ▸ Row.newO.wr (o := 0) (by simp)
  have k1416 : Keep m14 m16 := hm16 ▸ (Keep.refl k14.wf).newO.wr (Nat.le_refl _)
  have k16 := k14.trans k1416
  rw [mBind_iff]
  generalize hm17 : AX.bump m16 60 = m17
  have k1617 : Keep m16 m17 := hm17 ▸ (Keep.refl k16.wf).bump
  have fin' := k16.trans k1617
  have a12 := ((k1314.trans k1416).trans k1617).row k1113.wf a13
  have b12 := k1617.row k16.wf b16
  obtain ⟨_, _, e1, ra⟩ := rdA fin' hw'
  cases e1
  obtain ⟨_, _, e1, rb⟩ := rdB fin' hw'
  cases e1
  refine ⟨⟨by omega, by omega⟩, ?_⟩
  rw [vPtr_some]
  refine ⟨w, by simpa using ra, ⟨by omega, by omega⟩, ?_⟩
  rw [vPtr_some]
  refine ⟨w, by simpa using rb, split_ne (fun h => absurd rfl h) (fun _ => ⟨⟨by omega, by omega⟩, ?_⟩)⟩
  rw [vPtr_some]
  refine ⟨w, by simpa using ra, split_ltI (fun h => ?_) (fun _ => ?_)⟩
  · have := (hrng w hσ).1; omega
  refine split_ltI (fun hpos => ?_) (fun _ => ?_)
  · refine ⟨⟨by omega, by omega⟩, ?_⟩
    rw [vPtr_some]
    obtain ⟨j, rfl⟩ : ∃ j, i = j + 1 := ⟨i - 1, by omega⟩
    obtain ⟨v, hv⟩ : ∃ v, ks'[j]? = some v := ⟨_, List.getElem?_eq_getElem (by omega)⟩
    have hvw : v < w := by
      obtain ⟨p1, p2⟩ := List.getElem?_eq_some_iff.1 hv
      obtain ⟨p3, p4⟩ := List.getElem?_eq_some_iff.1 hw'
      have := List.pairwise_iff_getElem.1 s45 j (j + 1) p1 p3 (Nat.lt_succ_self _)
      rw [p2, p4] at this
      exact this
    obtain ⟨_, _, e1, rp⟩ := rdA fin' hv
    cases e1
    have ej : subI .i64 ((j + 1 : Nat) : Int) 1 = (j : Int) := by rw [subI_64 (by omega) (by omega)]; omega
    refine ⟨w, by simpa using ra, ?_⟩
    rw [ej]
    clear ej
    refine ⟨⟨by omega, by omega⟩, ?_⟩
    rw [vPtr_some]
    refine ⟨v, by simpa using rp, split_leI (fun h => by omega) (fun _ => ?_)⟩
    rw [show (!(some X).isSome) = false from rfl, splitB_false, splitB_false]
    iterate 12 refine ⟨_, a12.rd.trans rfl, ?_⟩
    iterate 12 refine ⟨_, b12.rd.trans rfl, ?_⟩
    refine ⟨true, ?_, ?_⟩
    · rw [eq27]
      refine eqInts_same _ ?_
      intro x hx
      simp at hx
      rcases hx with rfl | rfl | rfl | rfl | rfl | rfl | rfl | rfl | rfl | rfl | rfl | rfl <;> rfl
    rw [show (!true) = false from rfl, splitB_false]
    refine ⟨_, a12.rd.trans rfl, split_ltI (fun h => ?_) (fun _ => ⟨_, a12.rd.trans rfl, split_ltI (fun h => ?_) (fun _ => ⟨_, a12.rd.trans rfl, split_ltI (fun h => ?_) (fun _ => ?_)⟩)⟩)⟩
    · exact absurd hG.opn.1 (Int.not_le.2 h)
    · exact absurd hG.wor (Int.not_le.2 h)
    · exact absurd hG.sum.1 (Int.not_le.2 h)
    exact hI _ hlt fin'
  · rw [show (!(some X).isSome) = false from rfl, splitB_false, splitB_false]
    iterate 12 refine ⟨_, a12.rd.trans rfl, ?_⟩
    iterate 12 refine ⟨_, b12.rd.trans rfl, ?_⟩
    refine ⟨true, ?_, ?_⟩
    · rw [eq27]
      refine eqInts_same _ ?_
      intro x hx
      simp at hx
      rcases hx with rfl | rfl | rfl | rfl | rfl | rfl | rfl | rfl | rfl | rfl | rfl | rfl <;> rfl
    rw [show (!true) = false from rfl, splitB_false]
    refine ⟨_, a12.rd.trans rfl, split_ltI (fun h => ?_) (fun _ => ⟨_, a12.rd.trans rfl, split_ltI (fun h => ?_) (fun _ => ⟨_, a12.rd.trans rfl, split_ltI (fun h => ?_) (fun _ => ?_)⟩)⟩)⟩
    · exact absurd hG.opn.1 (Int.not_le.2 h)
    · exact absurd hG.wor (Int.not_le.2 h)
    · exact absurd hG.sum.1 (Int.not_le.2 h)
    exact hI _ hlt fin'

end Go.Proofs.Ytcnjgpidlhndhaa.vc

namespace Go.Proofs.Ytcnjgpidlhndhaa.statParts
open Go Go.ChangeShapes Go.WideShapes Go.ChangeAt Go.RowKit Go.AX
set_option linter.unusedVariables false

theorem own : ownKnob Try.prog.godebug = none := by kernel_rfl

theorem walk {H : Type} {enc : TypeId × Value → H} (W : World) (args : Array Value) (ds : List (DataW H)) (p : List MemPlace) (hA : DataW.TrodAll enc Try.prog W 0 (fun _ => true) true [22, 3] args.toList ds p)
    (hval : ∀ (j : Nat) t v, ([22, 3] : List TypeId)[j]? = some t → args.toList[j]? = some v → Value.okWide Try.prog W .any 0 t v) :
    Calls Try.prog 6 args W (fun e w' => e = .returned (.bool true) ∧ Below W.heap.size W w') ∧ ∃ d1 d2, ds = [d1, d2] := by
  obtain ⟨l⟩ := args
  simp only at hA hval
  obtain ⟨v1, vs1, d1, ds1, p1, q1, rfl, rfl, rfl, h1, hA⟩ := trodAll_cons hA
  obtain ⟨v2, vs2, d2, ds2, p2, q2, rfl, rfl, rfl, h2, hA⟩ := trodAll_cons hA
  obtain ⟨rfl, rfl, rfl⟩ := trodAll_nil hA
  refine ⟨?_, d1, d2, rfl⟩
  obtain ⟨a, n, c, es, rfl, hg, he, hok, hb, hC⟩ := vc.ev_arg2 (hval 0 _ _ rfl rfl) h1
  obtain ⟨x1, rfl, _⟩ := open_int Try.underlying3 (hval 1 _ _ rfl rfl) h2
  refine open_true (ann := vc.A6) vc.cxOk vc.ovOk vc.hmix W _ (by kernel_rfl : vc.cx.fn.get 6 = some Try.f6) ?_ ?_
  · simp only [List.all_cons, hg]; rfl
  · exact Eq.mp (vc.F6_eq a n c x1 _ _) (vc.parts_law (mW_wf _ _) he hok hb hC x1)

set_option maxRecDepth 100000 in
theorem lifted (os : Os) (started : os.Started) (H : Type) (enc : TypeId × Value → H) :
    ReturnsInHanded {} Try.checked os 6 .any (Rows.statPartsSpec.pre6 enc Try.prog Try.f6 Rows.statPartsRow.domain false) (Rows.statPartsSpec.post enc Try.prog Try.f6 false true false false) := by
  refine returnsInHanded_of_change (C := Try.checked) own started (by kernel_rfl) Try.func6
    (ChangeSpec.witness6 (enc := enc) (C := Try.checked) false ⟨#[], #[.slice none 0 0, .int .i64 0], []⟩ 8 (by kernel_rfl) (by kernel_rfl) (by kernel_rfl) (by kernel_rfl)) ?_
  intro W base args ds gs before hval0 hW hcnd _
  have hval : ∀ (j : Nat) t v, Try.f6.params[j]? = some t → args[j]? = some v → Value.okWide Try.prog W .any base t v := hval0
  have hW' := hW
  obtain ⟨p, q, hA0, hV, rfl, hfz, hnd⟩ := hW
  have hA : DataW.TrodAll enc Try.prog W 0 (fun _ => true) true Try.f6.params.toList args.toList ds p := hA0
  rw [Try.params6] at hA hval
  obtain ⟨rfl, rfl⟩ := trodVars_none hV
  clear hA0 hval0
  simp only [List.append_nil] at hW'
  have hval' : ∀ (j : Nat) t v, ([22, 3] : List TypeId)[j]? = some t → args.toList[j]? = some v → Value.okWide Try.prog W .any base t v := fun j t v h1 h2 => hval j t v (by simpa using h1) (by simpa using h2)
  obtain ⟨hc, d1, d2, rfl⟩ := walk (enc := enc) W args ds p hA hval'
  refine hc.mono fun e W' ⟨he, hg⟩ => ?_
  subst he
  exact ⟨_, rfl, post_law Try.underlying4 (by kernel_rfl) rfl rfl (by kernel_rfl) (by rw [Try.params6]; exact hW') (by rw [Try.params6]; exact hA) hg⟩

theorem over : Rows.statPartsRow.holds Try.pinned (OpenSpec.ofChange Rows.statPartsSpec) :=
  OpenClaim.holds_of_wide 6 Try.f6 rfl rfl rfl rfl rfl rfl rfl ⟨rfl, rfl, rfl, rfl, rfl⟩ rfl rfl rfl rfl rfl (by kernel_rfl) Try.func6 (by kernel_rfl)
    (of_decide_eq_true (by kernel_rfl)) (by unfold Func.isWrapper; first | (rw [if_pos (by decide +kernel)]; kernel_rfl) | (rw [if_neg (by decide +kernel)]; exact ⟨rfl, rfl⟩))
    (fun os started H enc _ => lifted os started H enc)

theorem proved : Rows.StatPartsSaid :=
  over
#print axioms proved
end Go.Proofs.Ytcnjgpidlhndhaa.statParts
