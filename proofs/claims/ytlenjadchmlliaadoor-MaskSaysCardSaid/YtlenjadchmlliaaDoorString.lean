/-
  Package mask: a set in words.
-/
import Derived.Test.YtlenjadchmlliaaDoorRuns
namespace Go.Proofs.YtlenjadchmlliaaDoor.vc
open Go Go.AX
set_option linter.unusedVariables false
set_option linter.unusedSimpArgs false

theorem strsA_get {c : Tr Value} : ∀ {ss : List ByteArray} {o : Nat}, (∀ j s, ss[j]? = some s → c.get (o + j) = some (.string s)) → strsA c ss.length o = some ss
  | [], _, _ => rfl
  | s :: r, o, h => by
    have h0 := h 0 s rfl
    rw [Nat.add_zero] at h0
    have ih := strsA_get (ss := r) (o := o + 1) fun j t ht => by
      have := h (j + 1) t ht
      rw [← this]; congr 1; omega
    show strsA c (r.length + 1) o = _
    unfold strsA
    rw [h0]
    simp only
    rw [ih]

theorem join_call {m : Mem} {b n : Nat} {ls : List (List UInt8)} {sep : List UInt8} {e : TypeId} {x : Bool} {Q : Value → Mem → Prop} (hR : Row m b (ls.map strV) e x) (hn : ls.length = n) (hl : (Lib.join ls sep).length ≤ 140737488355328) (hn2 : n ≤ 140737488355328)
    (h : Q (strV (Lib.join ls sep)) m) : CallW cx 31 [.slice (some ⟨b, 0, none⟩) n n, .string ⟨sep.toArray⟩] m Q := by
  subst hn
  obtain ⟨c, h1, h2⟩ := hR
  have hs : strsA c (ls.map fun l => (⟨l.toArray⟩ : ByteArray)).length 0 = some (ls.map fun l => (⟨l.toArray⟩ : ByteArray)) := strsA_get fun j s hj => by
    rw [List.getElem?_map, Option.map_eq_some_iff] at hj
    obtain ⟨l, hl, rfl⟩ := hj
    have hj2 : j < ls.length := (List.getElem?_eq_some_iff.1 hl).1
    rw [Nat.zero_add, h2 j (by simpa using hj2), List.getElem?_map, hl]
    rfl
  rw [List.length_map] at hs
  have em : (ls.map fun l => (⟨l.toArray⟩ : ByteArray)).map (·.data.toList) = ls := by
    rw [List.map_map]
    have : ((fun x : ByteArray => x.data.toList) ∘ fun l : List UInt8 => (⟨l.toArray⟩ : ByteArray)) = id := by funext l; rfl
    rw [this, List.map_id]
  refine CallW.ov (r := strV (Lib.join ls sep)) (m' := m) ov31 ?_ h
  unfold joinA
  dsimp only
  rw [h1]
  simp only
  rw [hs]
  simp only
  rw [em]
  have hb : (Nat.ble (0 + ls.length) (List.map strV ls).length && Nat.ble ls.length ls.length && Nat.ble ls.length 140737488355328 && Nat.ble (Lib.join ls sep).length 140737488355328) = true := by
    simp
    omega
  rw [hb]
  rfl

theorem un48 : cx.un.get 48 = some (.slice 9) := by kernel_rfl
theorem z9 : zeroT cx 9 = some (.string ⟨#[]⟩) := by kernel_rfl
noncomputable def ti9 : TypeInfo := match cx.ty.get 9 with | some i => i | none => default
theorem ty9 : cx.ty.get 9 = some ti9 := by kernel_rfl
theorem ti9s : ti9.size = 1 := by kernel_rfl
theorem ti9b : ti9.bytes = 16 := by kernel_rfl

theorem first_start {x k e k' : Nat} (hk : x.testBit k = true) (hke : k ≤ e) (hall : ∀ j, k < j → j ≤ e → x.testBit j = true) (he : x.testBit (e + 1) = false)
    (hmin : ∀ j, e + 1 ≤ j → j < k' → x.testBit j = false) (hge : e + 1 ≤ k') (hs : isStart x k = true) : starts k' x = starts k x ++ [k] := by
  rw [starts_gap (c := k + 1) (by omega), starts_succ, if_pos hs]
  intro j h1 h2
  unfold isStart
  by_cases hj : j ≤ e
  · have : x.testBit (j - 1) = true := by
      by_cases hj1 : j - 1 = k
      · rw [hj1]; exact hk
      · exact hall (j - 1) (by omega) (by omega)
    rw [this, decide_eq_true (show 0 < j by omega)]; simp
  · rw [hmin j (by omega) h2]; rfl

theorem string_ok {x : Nat} {m : Mem} {Q : Value → Mem → Prop} (hx : x < 18446744073709551616) (hw : Wf m) (ht : tabsIn tabs m) (h : ∀ m', Keep m m' → Q (strV (setB x)) m') : CallW cx 21 [.int .u64 x] m Q := by
  apply F21_ok
  unfold F21
  have c0 : clampW 0 = 0 := by decide
  let I : Option Addr → Nat → Nat → Int → Bool → Mem → Nat → Prop := fun a n c x4 b5 m2 w => ∃ k : Nat, k ≤ 64 ∧ Keep m m2 ∧ Grow m2 a n c 1 9 ((starts k x).map fun i => strV (runB x i)) ∧ (∀ b, a = some ⟨b, 0, none⟩ → m.nx ≤ b) ∧
    ((b5 = true ∧ x4 = (k : Int) ∧ k < 64 ∧ isStart x k = true ∧ w = 65 - k) ∨ (b5 = false ∧ k = 64 ∧ w = 0))
  have key : ∀ (a3 : Option Addr) (n3 c3 : Nat) (x4 : Int) (b5 : Bool), ∀ (m2 : Mem) (n_1 : Nat), I a3 n3 c3 x4 b5 m2 n_1 →
      (splitB (b5)
      (CallW cx 30 [.int .i64 (x4)] m2 fun r22 m3 => (∃ (s22 : ByteArray), r22 = (.string (s22)) ∧ (∃ Inv_2 : Int → Mem → Nat → Prop, (∃ n_3 : Nat, Inv_2 (x4) m3 n_3) ∧
      (∀ (x4_4 : Int), ∀ (m4 : Mem) (n_5 : Nat), Inv_2 (x4_4) m4 n_5 →
      (CallW cx 11 [.int .u64 (x : Int), .int .i64 (addI .i64 (x4_4) (1 : Int))] m4 fun r27 m5 => (∃ (b27 : Bool), r27 = (.bool (b27)) ∧ (splitB (b27)
      (∃ n_6 : Nat, n_6 < n_5 ∧ Inv_2 (addI .i64 (x4_4) (1 : Int)) m5 n_6)
      (joinK (fun (s6 : ByteArray) (m6 : Mem) => (mBind (newO m6 (row [.string (s6)] 9 false)) fun m7 => (∃ (a41 : Option Addr) (n41 c41 : Nat) (m8 : Mem), appendA cx m7 [48, 48] [.slice a3 (n3) (c3), .slice (some ⟨m6.nx, 0, none⟩) (1) (1)] = some (.slice a41 (n41) (c41), m8) ∧ (CallW cx 18 [.int .u64 (x : Int), .int .i64 (addI .i64 (x4_4) (1 : Int))] m8 fun r18 m9 => (∃ (x18 : Int), (∃ (b18 : Bool), r18 = (.tuple #[.int .i64 (x18), .bool (b18)]) ∧ (∃ n_7 : Nat, n_7 < n_1 ∧ I a41 (n41) (c41) (x18) (b18) m9 n_7))))))) fun J =>
      (splitB (ltI (x4) (x4_4))
      (CallW cx 30 [.int .i64 (x4_4)] m5 fun r35 m10 => (∃ (s35 : ByteArray), r35 = (.string (s35)) ∧ (lenS (ByteArray.mk #[45]) + lenS (s35) ≤ 140737488355328 ∧ (lenS (s22) + lenS (catS (ByteArray.mk #[45]) (s35)) ≤ 140737488355328 ∧ (J (catS (s22) (catS (ByteArray.mk #[45]) (s35))) m10)))))
      (J (s22) m5))))))))))
      (splitB (eqI (lenI (n3)) (0 : Int))
      (Q (.string (ByteArray.mk #[110, 111, 110, 101])) m2)
      (CallW cx 31 [.slice a3 (n3) (c3), .string (ByteArray.mk #[44])] m2 fun r46 m11 => (∃ (s46 : ByteArray), r46 = (.string (s46)) ∧ (Q (.string (s46)) m11))))) := by
    rintro a n c x4 b5 m2 w ⟨k, hk64, hK, hG, ha, ⟨rfl, rfl, hk, hst, rfl⟩ | ⟨rfl, rfl, rfl⟩⟩
    · have hxk : x.testBit k = true := by unfold isStart at hst; rw [Bool.and_eq_true] at hst; exact hst.1
      rw [splitB_true]
      refine itoa_ok hk ⟨_, rfl, ?_⟩
      refine ⟨fun e' m4 w2 => ∃ e : Nat, e' = (e : Int) ∧ k ≤ e ∧ e < 64 ∧ w2 = 64 - e ∧ m4 = m2 ∧ (∀ j, k < j → j ≤ e → x.testBit j = true), ⟨64 - k, k, rfl, Nat.le_refl _, hk, rfl, rfl, fun j a b => by omega⟩, ?_⟩
      rintro _ m4 w2 ⟨e, rfl, hke, he, rfl, rfl, hall⟩
      have ne : addI .i64 (e : Int) 1 = ((e + 1 : Nat) : Int) := by rw [addI_64 (by omega) (by omega)]; omega
      rw [ne]
      refine has_ok hx ⟨_, rfl, ?_⟩
      have hbit : hasB x ((e + 1 : Nat) : Int) = x.testBit (e + 1) := by
        unfold hasB
        by_cases h64 : e + 1 < 64
        · rw [decide_eq_true (by omega), decide_eq_true (by omega), Int.toNat_natCast]; rfl
        · rw [decide_eq_false (show ¬ ((e + 1 : Nat) : Int) < 64 by omega), Bool.and_false, Bool.false_and]
          cases hb : x.testBit (e + 1) with
          | false => rfl
          | true => have := bit_lt hx hb; omega
      rw [hbit, splitB_iff]
      refine ⟨fun hb => ?_, fun hb => ?_⟩
      · have h64 := bit_lt hx hb
        refine ⟨64 - (e + 1), Nat.sub_lt_sub_left he (Nat.lt_succ_self e), e + 1, rfl, by omega, h64, rfl, rfl, fun j a b => ?_⟩
        by_cases hj : j = e + 1
        · rw [hj]; exact hb
        · exact hall j a (by omega)
      · have hend := runEnd_eq hb hke he hall
        refine joinK_intro (fun J => J ⟨(runB x k).toArray⟩ m4) ?_ ?_
        · rw [mBind_iff]
          have hlen := hG.1
          rw [List.length_map] at hlen
          have hsl := starts_length k x
          obtain ⟨m8, h8, hK8, hG8, hnx8⟩ := push_ok hK hw hG ha (v := strV (runB x k)) rfl un48 ty9 ti9s z9 rfl rfl (by rw [ti9b]; omega) (by omega)
          refine ⟨_, _, _, m8, h8, ?_⟩
          have hha : ∀ (N : Nat), m.nx ≤ N → ∀ b, (some ⟨N, 0, none⟩ : Option Addr) = some ⟨b, 0, none⟩ → m.nx ≤ b := by
            rintro N hN b e; cases e; exact hN
          have hG9 : ∀ k', starts k' x = starts k x ++ [k] → Grow m8 (some ⟨(newO m4 (row [strV (runB x k)] 9 false)).nx, 0, none⟩) (n + 1) (n + 1) 1 9 ((starts k' x).map fun i => strV (runB x i)) := by
            intro k' hk'
            rw [hk', List.map_append]
            exact hG8
          refine first_ok hx (keep_tabs hK8 hw ht) (fun k' a1 a2 a3 a4 => ?_) (fun hno => ?_)
          · rw [clampW_nat (by omega)] at a3 a4
            have hs' := first_start hxk hke hall hb a4 a3 hst
            have hne : k' ≠ e + 1 := by
              intro h0; rw [h0, hb] at a2; cases a2
            refine ⟨_, _, rfl, 65 - k', w_less hk (by omega), k', by omega, hK8, hG9 k' hs', hha _ hnx8, .inl ⟨rfl, rfl, a1, ?_, rfl⟩⟩
            unfold isStart
            rw [a2, a4 (k' - 1) (by omega) (by omega), Bool.and_false]; rfl
          · rw [clampW_nat (by omega)] at hno
            have hs' := first_start (k' := 64) hxk hke hall hb (fun j h1 _ => hno j h1) (by omega) hst
            exact ⟨_, _, rfl, 0, w_pos hk, 64, by omega, hK8, hG9 64 hs', hha _ hnx8, .inr ⟨rfl, rfl, rfl⟩⟩
        · intro J hJ
          rw [splitB_iff]
          have h1 := numB_len k
          have h2 := numB_len e
          refine ⟨fun hlt => ?_, fun hge => ?_⟩
          · rw [ltI_true] at hlt
            refine itoa_ok he ⟨_, rfl, ?_, ?_, ?_⟩
            · show 1 + (numB e).length ≤ _
              omega
            · show (numB k).length + ([45] ++ numB e).length ≤ _
              simp; omega
            · have er : runB x k = numB k ++ ([45] ++ numB e) := by
                unfold runB
                rw [hend, if_pos (by omega)]; rfl
              rw [er] at hJ
              exact hJ
          · rw [ltI_false] at hge
            have er : runB x k = numB k := by
              unfold runB
              rw [hend, if_neg (by omega), List.append_nil]
            rw [er] at hJ
            exact hJ
    · rw [splitB_false]
      have hlen := hG.1
      rw [List.length_map] at hlen
      have hQ := h m2 hK
      unfold setB at hQ
      rw [splitB_iff]
      refine ⟨fun h0 => ?_, fun h0 => ?_⟩
      · rw [eqI_true] at h0
        unfold lenI at h0
        rw [if_pos (List.length_eq_zero_iff.1 (by omega))] at hQ
        exact hQ
      · rw [eqI_false] at h0
        unfold lenI at h0
        rw [if_neg (fun e => by rw [e] at hlen; simp at hlen; omega)] at hQ
        rcases hG.2 with ⟨_, h1, _⟩ | ⟨b, rfl, rfl, _, hR⟩
        · omega
        · have hsl := starts_length 64 x
          have e1 : ((starts 64 x).map fun i => strV (runB x i)) = ((starts 64 x).map (runB x)).map strV := by rw [List.map_map]; rfl
          rw [e1] at hR
          refine join_call (sep := [44]) hR (by simp; omega) ?_ (by omega) ⟨_, rfl, hQ⟩
          have := textN_len x 64
          unfold textN at this
          omega
  refine first_ok hx ht (fun k a1 a2 a3 a4 => ⟨_, _, rfl, I, ⟨65 - k, k, by omega, Keep.refl hw, ?_, (fun _ e => nomatch e), .inl ⟨rfl, rfl, a1, ?_, rfl⟩⟩, key⟩) (fun hno => ⟨_, _, rfl, I, ⟨0, 64, by omega, Keep.refl hw, ?_, (fun _ e => nomatch e), .inr ⟨rfl, rfl, rfl⟩⟩, key⟩)
  · rw [c0] at a4
    have : starts k x = [] := starts_gap (c := 0) (by omega) fun j _ h2 => by unfold isStart; rw [a4 j (by omega) h2]; rfl
    rw [this]; exact Grow.nil _ _ _
  · rw [c0] at a4
    unfold isStart
    by_cases h0 : 0 < k
    · rw [a2, a4 (k - 1) (by omega) (by omega), Bool.and_false]; rfl
    · rw [a2, decide_eq_false h0]; rfl
  · rw [c0] at hno
    have : starts 64 x = [] := starts_gap (c := 0) (by omega) fun j _ _ => by unfold isStart; rw [hno j (by omega)]; rfl
    rw [this]; exact Grow.nil _ _ _

end Go.Proofs.YtlenjadchmlliaaDoor.vc
