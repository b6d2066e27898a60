/-
  Package note: strings.Index, strconv.ParseInt, strings.Split, slices.IndexFunc; Parse.
-/
import Derived.Test.YtdeknemdeijljaaDoorLaid
import Derived.Test.YtdeknemdeijljaaDoorSay
import Derived.Test.YtdeknemdeijljaaDoorAxSl
namespace Go.Proofs.YtdeknemdeijljaaDoor.vc
open Go Go.AX
set_option linter.unusedVariables false
set_option linter.unusedSimpArgs false
set_option maxRecDepth 100000

theorem index_ok {s : List UInt8} {c : UInt8} {m : Mem} {Q : Value → Mem → Prop} (h : Q (.int .i64 (Lib.indexByte s c)) m) : CallW cx 61 [.string (bs s), .string (bs [c])] m Q := by
  apply F61_ok; unfold F61
  refine joinK_of' (fun J => J (eqS (bs [c]) (bs s)) m) ?_ (fun J hJ => ?_)
  · refine split_eqS (fun he => ?_) (fun _ => ?_)
    · rw [bs_inj] at he
      subst he
      have : Lib.indexByte [c] c = 0 := by unfold Lib.indexByte; rw [if_pos (beq_self_eq_true c)]
      rw [this] at h
      exact h
    · refine split_eq (fun _ => ?_) (fun hne => absurd rfl hne)
      refine ⟨by decide, c, rfl, ?_⟩
      apply F69_ok; unfold F69
      refine CallW.ov (f := indexByteA) (by kernel_rfl) rfl ⟨_, rfl, _, rfl, ?_⟩
      show Q (.int .i64 (Lib.indexByte s (Int.toNat (c.toNat : Int)).toUInt8)) m
      rw [u8_int]; exact h
  · refine split_eq (fun h0 => ?_) (fun _ => hJ)
    simp [lenI, lenS] at h0

theorem index_ok' {s : List UInt8} {c : UInt8} {m : Mem} {Q : Value → Mem → Prop} (h : Q (.int .i64 (Lib.indexByte s c)) m) : CallW cx 47 [.string (bs s), .string (bs [c])] m Q := by
  apply F47_ok; unfold F47
  exact index_ok ⟨_, rfl, h⟩

/-! ## strconv.ParseInt, strconv.Atoi -/

theorem eq74 (m : Mem) (a b : Int) : eqV cx m 40 49 (.iface 74 (.int .i64 a)) (.iface 74 (.int .i64 b)) = some (decide (a = b)) := by kernel_rfl
theorem eqn (m : Mem) (t : TypeId) (v : Value) : eqV cx m 40 49 (.iface t v) .nilIface = some false := by kernel_rfl
theorem eqnn (m : Mem) : eqV cx m 40 49 .nilIface .nilIface = some true := by kernel_rfl

theorem clone_at {s : List UInt8} {m : Mem} {Q : Value → Mem → Prop} (hs : s.length ≤ 1000000) (h : Q (strV s) m) : CallW cx 64 [.string (bs s)] m Q := by
  refine CallW.ov (f := cloneA) (by kernel_rfl) (r := strV s) (m' := m) ?_ h
  unfold cloneA
  simp only [size_bs, Nat.ble_eq_true_of_le hs]
  rfl

theorem errNew_ok {f s : List UInt8} {m : Mem} {Q : Value → Mem → Prop} (hw : Wf m) (he : ErrsT m) (hs : s.length ≤ 1000000) (h : ∀ m' p, Keep m m' → Q (.pointer p) m') :
    CallW cx 49 [.string (bs f), .string (bs s)] m Q ∧ CallW cx 50 [.string (bs f), .string (bs s)] m Q := by
  have k1 : Keep m (AX.bump m 7) := (Keep.refl hw).bump
  have hmem : ∀ o, Keep m (AX.addO (setFl (setFl (AX.bump m 7) m.nx) (AX.bump m 7).fl) (m.nx + 5) o) := fun o => by
    refine ⟨Wf.addO (m := setFl (setFl (AX.bump m 7) m.nx) (AX.bump m 7).fl) k1.wf (show m.nx + 5 < m.nx + 7 by omega), ?_, rfl, fun b hb => ?_⟩
    · show m.nx ≤ m.nx + 7; omega
    · rw [addO_get, if_neg (by omega)]; rfl
  constructor
  · apply F49_ok; unfold F49
    rw [mBind_iff]
    obtain ⟨v, hv⟩ := he 1 (.inl rfl)
    refine clone_at hs ⟨_, rfl, _, rd_keep k1 hw hv, ?_⟩
    show mBind _ _
    rw [mBind_iff]
    exact h _ _ (hmem _)
  · apply F50_ok; unfold F50
    rw [mBind_iff]
    obtain ⟨v, hv⟩ := he 2 (.inr rfl)
    refine clone_at hs ⟨_, rfl, _, rd_keep k1 hw hv, ?_⟩
    show mBind _ _
    rw [mBind_iff]
    exact h _ _ (hmem _)

theorem toError_ok {f s : List UInt8} {x y e : Int} {m : Mem} {Q : Value → Mem → Prop} (hw : Wf m) (he : ErrsT m) (hs : s.length ≤ 1000000) (h12 : e = 1 ∨ e = 2) (h : ∀ m' p, Keep m m' → Q (.iface 78 (.pointer p)) m') :
    CallW cx 37 [.string (bs f), .string (bs s), .int .i64 x, .int .i64 y, .iface 74 (.int .i64 e)] m Q := by
  apply F37_ok; unfold F37
  refine ⟨(fun h => by cases h), _, eq74 m e 2, ?_⟩
  rcases h12 with rfl | rfl
  · rw [show decide ((1 : Int) = 2) = false from rfl, splitB_false]
    refine ⟨(fun h => by cases h), _, eq74 m 1 1, ?_⟩
    rw [show decide ((1 : Int) = 1) = true from rfl, splitB_true]
    exact (errNew_ok hw he hs fun m' p k => ⟨_, rfl, h m' p k⟩).2
  · rw [show decide ((2 : Int) = 2) = true from rfl, splitB_true]
    exact (errNew_ok hw he hs fun m' p k => ⟨_, rfl, h m' p k⟩).1

theorem num_of {s : List UInt8} : atoiV s = (match Lib.atoiAll s with | .ok v => v | .range => Lib.atoiSat s | _ => 0) := rfl

theorem intT {s : List UInt8} {m : Mem} {G : Value → Mem → Prop} {f : List UInt8} {x y : Int} (hw : Wf m) (he : ErrsT m) (hs : s.length ≤ 1000000) (h : ∀ m' v, Keep m m' → G (.tuple #[.int .i64 (atoiV s), v]) m') :
    ∃ (x13 : Int), (∃ (v13 : Value), Lib.intTuple 74 (Lib.atoiSat s) (Lib.atoiAll s) = (.tuple #[.int .i64 (x13), v13]) ∧ (∃ r : Bool, eqV cx m 40 49 (v13) (.nilIface) = some r ∧ (splitB (!r)
  (CallW cx 37 [.string (bs f), .string (bs s), .int .i64 (x), .int .i64 (y), v13] m fun r23 m2 => (∃ (v23 : Value), r23 = (v23) ∧ (G (.tuple #[.int .i64 (x13), v23]) m2)))
  (G (.tuple #[.int .i64 (x13), .nilIface]) m)))) := by
  rw [num_of] at h
  cases hr : Lib.atoiAll s
  · rename_i u
    rw [hr] at h
    exact ⟨u, _, rfl, _, eqnn m, h m _ (Keep.refl hw)⟩
  · skip
    rw [hr] at h
    refine ⟨0, _, rfl, _, eqn m _ _, ?_⟩
    rw [show (!false) = true from rfl, splitB_true]
    exact toError_ok hw he hs (.inr rfl) fun m' p k => ⟨_, rfl, h m' _ k⟩
  · skip
    rw [hr] at h
    refine ⟨_, _, rfl, _, eqn m _ _, ?_⟩
    rw [show (!false) = true from rfl, splitB_true]
    exact toError_ok hw he hs (.inl rfl) fun m' p k => ⟨_, rfl, h m' _ k⟩

theorem parseInt_ok' {s : List UInt8} {m : Mem} {Q : Value → Mem → Prop} (hw : Wf m) (he : ErrsT m) (hs : s.length ≤ 1000000) (h : ∀ m' v, Keep m m' → Q (.tuple #[.int .i64 (atoiV s), v]) m') : CallW cx 23 [.string (bs s), .int .i64 10, .int .i64 64] m Q := by
  apply F23_ok; unfold F23
  refine CallW.ov (f := parseIntA 74) (r := Lib.intTuple 74 (Lib.intSat 64 s) (Lib.parseIntB 64 s)) (m' := m) (by kernel_rfl) ?_ ?_
  · unfold parseIntA
    simp only [size_bs, Nat.ble_eq_true_of_le hs]
  rw [Lib.parseIntB_64, intSat_64]
  exact intT (f := [80, 97, 114, 115, 101, 73, 110, 116]) hw he hs h

theorem atoi_ok' {s : List UInt8} {m : Mem} {Q : Value → Mem → Prop} (hw : Wf m) (he : ErrsT m) (hs : s.length ≤ 1000000) (h : ∀ m' v, Keep m m' → Q (.tuple #[.int .i64 (atoiV s), v]) m') : CallW cx 24 [.string (bs s)] m Q := by
  apply F24_ok; unfold F24
  refine CallW.ov (f := atoiA 74) (r := Lib.intTuple 74 (Lib.atoiSat s) (Lib.atoiAll s)) (m' := m) (by kernel_rfl) ?_ ?_
  · unfold atoiA
    simp only [size_bs, Nat.ble_eq_true_of_le hs]
  exact intT (f := [65, 116, 111, 105]) hw he hs h

/-! ## strings.Split -/

theorem count_ok' {s : List UInt8} {m : Mem} {Q : Value → Mem → Prop} (h : Q (.int .i64 ((s.count 32 : Nat) : Int)) m) : CallW cx 46 [.string (bs s), .string (bs [32])] m Q := by
  apply F46_ok; unfold F46
  refine split_eq (fun h0 => by simp [lenI, lenS] at h0) (fun _ => split_eq (fun _ => ?_) (fun hne => absurd rfl hne))
  refine ⟨by decide, 32, rfl, ?_⟩
  refine CallW.ov (f := countA) (by kernel_rfl) rfl ⟨_, rfl, ?_⟩
  exact h

theorem split_ok {s : List UInt8} {c : UInt8} {m : Mem} {Q : Value → Mem → Prop} (hw : Wf m) (hs : s.length ≤ 1000000)
    (hc : c = 32) (h : ∀ a n c' m', Keep m m' → SlIs m' a n ((pieces c (s.count c) s).map strV) → n ≤ 1000001 → Q (.slice a n c') m') : CallW cx 22 [.string (bs s), .string (bs [c])] m Q := by
  apply F22_ok; unfold F22
  apply F35_ok; unfold F35
  refine split_eq (fun h => by cases h) (fun _ => split_eqS (fun h => by cases h) (fun _ => ?_))
  have hcl : s.count c ≤ s.length := List.count_le_length
  refine joinK_of' (fun J => J ((s.count c + 1 : Nat) : Int) m) ?_ (fun J hJ => split_ltI (fun _ => by
    subst hc
    refine count_ok' ⟨_, rfl, ?_⟩
    rw [addI_64 (by omega) (by omega)]
    exact hJ) (fun h => by omega))
  generalize s.count c = N at h hcl ⊢
  have hN9 : N + 1 ≤ 1000001 := by omega
  have eN : mnI ((N + 1 : Nat) : Int) (addI .i64 (lenI (lenS (bs s))) 1) = ((N + 1 : Nat) : Int) := by
    show mnI ((N + 1 : Nat) : Int) (addI .i64 ((s.length : Nat) : Int) 1) = _
    rw [addI_64 (by omega) (by omega), show ((s.length : Nat) : Int) + 1 = ((s.length + 1 : Nat) : Int) by omega, mnI_nat, Nat.min_eq_left (by omega)]
  simp only [eN, Int.toNat_natCast]
  refine ⟨⟨by omega, by omega, by omega, by omega⟩, ?_⟩
  rw [mBind_iff, repL_one]
  generalize hm3 : newO m _ = m3
  have k3 : Keep m m3 := hm3 ▸ (Keep.refl hw).newO
  have r3 : Row m3 m.nx (List.replicate (N + 1) (strV [])) 9 false := by rw [← hm3]; exact Row.newO
  have hfl := hw.1
  have esub : subI .i64 ((N + 1 : Nat) : Int) 1 = ((N : Nat) : Int) := by rw [subI_64 (by omega) (by omega)]; omega
  simp only [esub]
  refine joinK_of' (fun J => ∀ (done : List (List UInt8)) (rest : List UInt8) m4, done.length ≤ N → pieces c N s = done ++ [rest] → Keep m m4 → Row m4 m.nx (done.map strV ++ List.replicate (N + 1 - done.length) (strV [])) 9 false → J (bs rest) (done.length : Int) m4) (fun done rest m4 hd hp k4 r4 => ?_) (fun J hJ => ?_)
  · refine ⟨⟨by omega, by omega⟩, r4.okW (by have := k4.fl; omega) (by simp; omega), ?_⟩
    rw [mBind_iff]
    simp only [Nat.zero_add, Nat.mul_one, Int.toNat_natCast]
    have r5 := r4.wr1 (o := done.length) (v := strV rest) (by simp; omega)
    have k5 : Keep m (AX.wr m4 m.nx done.length [strV rest]) := k4.wr (Nat.le_refl _)
    have hset : (done.map strV ++ List.replicate (N + 1 - done.length) (strV [])).set done.length (strV rest) = ((done ++ [rest]).map strV) ++ List.replicate (N - done.length) (strV []) := by
      have := set_rep (done := done.map strV) (v := strV rest) (z := strV []) (q := N + 1 - done.length) (by omega)
      rw [List.length_map] at this
      rw [this, List.map_append, show N + 1 - done.length - 1 = N - done.length by omega]; rfl
    rw [hset, ← hp] at r5
    have hpl : (pieces c N s).length = done.length + 1 := by rw [hp]; simp
    have un37 : cx.un.get 37 = some (.slice 9) := by kernel_rfl
    have e1 : addI .i64 (done.length : Int) 1 = ((done.length + 1 : Nat) : Int) := by rw [addI_64 (by omega) (by omega)]; rfl
    rw [e1]
    refine ⟨_, _, _, sliceOp_at (s := 1) (e := 9) (i := 0) (j := done.length + 1) un37 (by kernel_rfl) (boundA_some (by omega)) boundA_none (r5.sameSize (by kernel_rfl)) (by omega), _, _, _, rfl, ?_⟩
    refine h _ _ _ _ k5 ⟨by simp [hpl], fun i v hv => ⟨m.nx, 0 + 0 * 1, rfl, ?_⟩⟩ (by omega)
    show rd (AX.wr m4 m.nx done.length [strV rest]) m.nx (0 + 0 * 1 + i) = some v
    rw [r5.rd, show 0 + 0 * 1 + i = i by omega, List.getElem?_append_left (by
      have := (List.getElem?_eq_some_iff.1 hv).1
      exact this)]
    exact hv
  · refine forN1 (n := N) (by omega) (fun k (x : ByteArray) m6 => ∃ (done : List (List UInt8)) (rest : List UInt8), x = bs rest ∧ done.length = k ∧ pieces c N s = done ++ pieces c (N - k) rest ∧ rest.length ≤ s.length ∧ Keep m m6 ∧ Row m6 m.nx (done.map strV ++ List.replicate (N + 1 - k) (strV [])) 9 false)
      ⟨[], s, rfl, rfl, rfl, Nat.le_refl _, k3, by simpa using r3⟩ ?_
    rintro k x m6 hk ⟨done, rest, rfl, hd, hp, hrl, k6, r6⟩ I w hI
    subst hd
    refine split_ltI (fun hlt => ?_) (fun hge => ?_)
    · have hlt : done.length < N := by omega
      obtain ⟨q, hq⟩ : ∃ q, N - done.length = q + 1 := ⟨N - done.length - 1, by omega⟩
      rw [hq, pieces_succ] at hp
      have hil := indexByte_lt (c := c) (l := rest)
      refine index_ok' ⟨_, rfl, split_ltI (fun hneg => ?_) (fun hpos => ?_)⟩
      · rw [if_pos hneg] at hp
        exact hJ done rest m6 (by omega) hp k6 r6
      · rw [if_neg (by omega)] at hp
        obtain ⟨i, hi⟩ : ∃ i : Nat, Lib.indexByte rest c = i := ⟨(Lib.indexByte rest c).toNat, by omega⟩
        rw [hi] at hil hp ⊢
        simp only [Int.toNat_natCast] at hp
        refine ⟨_, sliceOp_str un9 (j := i) ?_ boundA_none, ?_⟩
        · rw [addI_64 (by omega) (by omega)]; exact boundA_int (by omega) (by omega)
        refine ⟨⟨by omega, by omega⟩, r6.okW (by have := k6.fl; omega) (by simp; omega), ?_⟩
        rw [mBind_iff]
        simp only [Nat.zero_add, Nat.mul_one, Int.toNat_natCast]
        have r7 := r6.wr1 (o := done.length) (v := strV (rest.take i)) (by simp; omega)
        have k7 : Keep m (AX.wr m6 m.nx done.length [strV (rest.take i)]) := k6.wr (Nat.le_refl _)
        have hset : (done.map strV ++ List.replicate (N + 1 - done.length) (strV [])).set done.length (strV (rest.take i)) = ((done ++ [rest.take i]).map strV) ++ List.replicate (N + 1 - (done.length + 1)) (strV []) := by
          have := set_rep (done := done.map strV) (v := strV (rest.take i)) (z := strV []) (q := N + 1 - done.length) (by omega)
          rw [List.length_map] at this
          rw [this, List.map_append, show N + 1 - done.length - 1 = N + 1 - (done.length + 1) by omega]; rfl
        rw [hset] at r7
        have e7 : ((rest.drop 0).take (i - 0)) = rest.take i := by simp
        rw [e7]
        refine ⟨_, sliceOp_str un9 (i := i + 1) boundA_none ?_, ?_⟩
        · show boundA 0 (some (.int .i64 (addI .i64 (i : Int) (lenI (lenS (bs [c])))))) rest.length = some (i + 1)
          rw [show lenI (lenS (bs [c])) = 1 from rfl, addI_64 (by omega) (by omega)]
          exact boundA_int (by omega) (by omega)
        · refine hI _ _ hlt ⟨done ++ [rest.take i], rest.drop (i + 1), ?_, by simp, ?_, by simp; omega, k7, r7⟩
          · rw [List.take_of_length_le (by simp)]
          · rw [hp, show N - (done.length + 1) = q by omega]; simp
    · have hkN : done.length = N := by omega
      rw [hkN, Nat.sub_self] at hp
      exact hJ done rest m6 (by omega) hp k6 r6


/-! ## Parse -/

theorem told_ok {w x : List UInt8} {pb n c : Nat} {a : Option Addr} {parts : List (List UInt8)} {m : Mem} {Q : Value → Mem → Prop} (hw : Wf m) (hwl : w.length ≤ 1000000)
    (hc : rd m pb 0 = some (.slice a n c)) (hS : SlIs m a n (parts.map strV)) (hx : parts[1]? = some x) (h : ∀ m', Keep m m' → Q (.bool (decide (w ≠ [] ∧ trimW w = x))) m') :
    CallW cx 26 [.string (bs w), .pointer (some ⟨pb, 0, none⟩)] m Q := by
  apply F26_ok; unfold F26
  rw [mBind_iff]
  refine split_neS (fun hne => ?_) (fun heq => ?_)
  · have hne : w ≠ [] := fun e => hne (by rw [e])
    refine trimSuf_ok hwl ⟨_, rfl, ?_⟩
    rw [vPtr_some]
    refine ⟨_, _, _, hc, ?_⟩
    obtain ⟨b, o, rfl, hr⟩ := hS.at (i := 1) (v := strV x) (by simp [hx])
    have hn : 1 < n := by
      have h1 := (List.getElem?_eq_some_iff.1 hx).1
      have h2 := hS.1
      rw [List.length_map] at h2
      omega
    refine ⟨⟨by omega, by omega⟩, ?_⟩
    rw [vPtr_some]
    refine ⟨bs x, by simpa [strV] using hr, ?_⟩
    rw [eqS_dec']
    have := h _ (Keep.region (n := 11) hw (Keep.refl (Wf.region 11 hw)))
    simpa [hne] using this
  · have h0 : w = [] := bs_inj.1 (show bs w = bs [] from heq)
    have := h _ ((Keep.refl hw).bump (n := 11))
    simpa [h0] using this

theorem word_mem {k : Nat} (h : k < 11) : (wordsL.map strV)[k]? = some (strV (word k)) := by rw [List.getElem?_map, word_at h]; rfl

theorem idxGo_drop {x : List UInt8} {k : Nat} (h : k < 11) : idxGo x (wordsL.drop k) k = if word k ≠ [] ∧ trimW (word k) = x then (k : Int) else idxGo x (wordsL.drop (k + 1)) (k + 1) := by
  have e : wordsL.drop k = word k :: wordsL.drop (k + 1) := by
    have h1 := word_at h
    obtain ⟨h2, h3⟩ := List.getElem?_eq_some_iff.1 h1
    rw [List.drop_eq_getElem_cons h2, h3]
  rw [e]; rfl

theorem index_ok2 {x : List UInt8} {b pb n c : Nat} {a : Option Addr} {parts : List (List UInt8)} {m : Mem} {Q : Value → Mem → Prop} (hw : Wf m)
    (hr : Row m b (wordsL.map strV) 9 false) (hc : rd m pb 0 = some (.slice a n c)) (hS : SlIs m a n (parts.map strV)) (hx : parts[1]? = some x) (h : ∀ m', Keep m m' → Q (.int .i64 (idxW x)) m') :
    CallW cx 25 [.slice (some ⟨b, 0, none⟩) 11 11, .func (.func 26) #[] #[.pointer (some ⟨pb, 0, none⟩)]] m Q := by
  apply F25_ok; unfold F25
  refine forN (n := 11) (by omega) (fun k m2 => Keep m m2 ∧ idxW x = idxGo x (wordsL.drop k) k) ⟨Keep.refl hw, rfl⟩ ?_
  rintro k m2 hk ⟨k2, hi⟩ I w hI
  refine split_lt (fun hlt => ?_) (fun hge => ?_)
  · refine ⟨⟨by omega, by omega⟩, ?_⟩
    rw [vPtr_some]
    refine ⟨bs (word k), ?_, ?_⟩
    · rw [(k2.row hw hr).rd, Int.toNat_natCast, show 0 + k * 1 = k by omega, word_mem hlt]; rfl
    show CallW cx 26 [.string (bs (word k)), .pointer (some ⟨pb, 0, none⟩)] m2 _
    have hwl := (word_len hlt).1
    refine told_ok k2.wf (by omega) (rd_keep k2 hw hc) (hS.keep hw k2) hx fun m3 k3 => ⟨_, rfl, ?_⟩
    rw [idxGo_drop hlt] at hi
    refine split_b (fun hy => ?_) (fun hn => ?_)
    · rw [if_pos (decide_eq_true_iff.1 hy)] at hi
      rw [← hi]
      exact h _ (k2.trans k3)
    · rw [if_neg (decide_eq_false_iff_not.1 hn)] at hi
      exact hI _ hlt ⟨k2.trans k3, hi⟩
  · have : k = 11 := by omega
    subst this
    have e : idxGo x (wordsL.drop 11) 11 = -1 := rfl
    rw [e] at hi
    rw [← hi]
    exact h _ k2

theorem out_ok {M : Mem} {b : Nat} {l : List Value} {ok : Bool} {Q : Value → Mem → Prop} (r : Row M b l 23 false) (hl : l.length = 4) (hf : M.fl ≤ b) (e : E)
    (hQ : Q (.tuple #[.agg #[.int .i64 e.1, .int .i64 e.2.1, .int .i64 e.2.2.1, .int .i64 e.2.2.2], .bool ok]) (AX.wr M b 0 (encV e))) :
    okW M b 0 4 ∧ (mBind (AX.wr M b 0 [.int .i64 e.1, .int .i64 e.2.1, .int .i64 e.2.2.1, .int .i64 e.2.2.2]) fun m5 => (∃ (xr : Int), rd m5 b 0 = some (.int .i64 xr) ∧ (∃ (xr_1 : Int), rd m5 b 1 = some (.int .i64 xr_1) ∧ (∃ (xr_2 : Int), rd m5 b 2 = some (.int .i64 xr_2) ∧ (∃ (xr_3 : Int), rd m5 b 3 = some (.int .i64 xr_3) ∧ (Q (.tuple #[.agg #[.int .i64 xr, .int .i64 xr_1, .int .i64 xr_2, .int .i64 xr_3], .bool ok]) m5)))))) := by
  refine ⟨r.okW hf (by omega), ?_⟩
  rw [mBind_iff]
  obtain ⟨v1, v2, v3, v4, rfl⟩ : ∃ v1 v2 v3 v4, l = [v1, v2, v3, v4] := by
    rcases l with _ | ⟨v1, _ | ⟨v2, _ | ⟨v3, _ | ⟨v4, _ | ⟨v5, l⟩⟩⟩⟩⟩ <;> simp at hl
    exact ⟨_, _, _, _, rfl⟩
  have r5 : Row (AX.wr M b 0 (encV e)) b (encV e) 23 false := r.wr (o := 0) (vs := encV e) (by simp [encV])
  exact ⟨_, r5.rd, _, r5.rd, _, r5.rd, _, r5.rd, hQ⟩

def ansE : Option E → Value
  | none => .tuple #[.agg #[.int .i64 0, .int .i64 0, .int .i64 0, .int .i64 0], .bool false]
  | some e => .tuple #[.agg #[.int .i64 e.1, .int .i64 e.2.1, .int .i64 e.2.2.1, .int .i64 e.2.2.2], .bool true]

theorem idxGo_bounds {x : List UInt8} : ∀ {l : List (List UInt8)} {k : Nat}, idxGo x l k ≤ (k + l.length : Nat)
  | [], k => by show (-1 : Int) ≤ _; omega
  | w :: r, k => by
    unfold idxGo
    split
    · simp; omega
    · have := idxGo_bounds (x := x) (l := r) (k := k + 1)
      simp only [List.length_cons] at *
      omega

theorem parse_ok {s : List UInt8} {m : Mem} {Q : Value → Mem → Prop} (hw : Wf m) (hp : PowT m) (he : ErrsT m) (hs : s.length ≤ 1000000) (h : ∀ m', Keep m m' → Q (ansE (parseE s)) m') : CallW cx 9 [.string (bs s)] m Q := by
  apply F9_ok; unfold F9
  rw [mBind_iff]
  generalize hm1 : newO m _ = m1
  have k1 : Keep m m1 := hm1 ▸ (Keep.refl hw).newO
  have r1 : Row m1 m.nx (encV (0, 0, 0, 0)) 23 false := by rw [← hm1]; exact Row.newO
  have hfl := hw.1
  refine split_ok (c := 32) k1.wf hs rfl fun a n c m2 k12 hS hn => ⟨a, n, c, rfl, ?_⟩
  have k2 := k1.trans k12
  generalize hP : pieces 32 (s.count 32) s = P at hS
  have hPl : P.length = n := by have := hS.1; simpa using this
  have hpl : ∀ x ∈ P, x.length ≤ 1000000 := fun x hx => by
    have := pieces_len (c := 32) (s := s) (x := x) (by rw [hP]; exact hx)
    omega
  have hE : parseE s = if P.length < 3 then none else if textE (fieldsE P) = s then some (fieldsE P) else none := by unfold parseE; rw [hP]
  rw [hE] at h
  clear hE
  rw [mBind_iff]
  have rs : Row (newO m2 (row [.slice none 0 0] 37 false)) m2.nx [.slice none 0 0] 37 false := Row.newO
  refine ⟨rs.okW (by have := k2.wf.1; simpa using this) (by simp), ?_⟩
  rw [mBind_iff]
  have r4 : Row (AX.wr (newO m2 (row [.slice none 0 0] 37 false)) m2.nx 0 [.slice a n c]) m2.nx [.slice a n c] 37 false := rs.wr (o := 0) (vs := [.slice a n c]) (by simp)
  have k24 : Keep m2 (AX.wr (newO m2 (row [.slice none 0 0] 37 false)) m2.nx 0 [.slice a n c]) := (Keep.refl k2.wf).newO.wr (Nat.le_refl _)
  generalize AX.wr (newO m2 (row [.slice none 0 0] 37 false)) m2.nx 0 [.slice a n c] = m4 at r4 k24 ⊢
  have k4 := k2.trans k24
  have k14 := k12.trans k24
  -- what is given back
  have out : ∀ M, Keep m4 M → Row M m.nx (encV (0, 0, 0, 0)) 23 false ∧ M.fl ≤ m.nx := fun M kM => by
    have kk := k14.trans kM
    refine ⟨kk.row k1.wf r1, ?_⟩
    have h1 := kk.fl
    have h2 := k1.fl
    omega
  refine ⟨_, _, _, r4.rd, split_ltI (fun hlt => ?_) (fun hge => ?_)⟩
  · have hl3 : P.length < 3 := by unfold lenI at hlt; omega
    rw [if_pos hl3] at h
    obtain ⟨o1, o2⟩ := out m4 (Keep.refl k4.wf)
    exact out_ok o1 rfl o2 (0, 0, 0, 0) (h _ (k4.wr (Nat.le_refl _)))
  have hl3 : ¬ P.length < 3 := by unfold lenI at hge; omega
  rw [if_neg hl3] at h
  obtain ⟨f0, f1, f2, R, rfl⟩ : ∃ f0 f1 f2 R, P = f0 :: f1 :: f2 :: R := by
    rcases P with _ | ⟨f0, _ | ⟨f1, _ | ⟨f2, R⟩⟩⟩
    · exact absurd (by simp) hl3
    · exact absurd (by simp) hl3
    · exact absurd (by simp) hl3
    · exact ⟨_, _, _, _, rfl⟩
  rw [mBind_iff]
  have r6 : Row (newO m4 (row [.int .i64 0, .int .i64 0, .int .i64 0, .int .i64 0] 23 false)) m4.nx [.int .i64 0, .int .i64 0, .int .i64 0, .int .i64 0] 23 false := Row.newO
  have k46 : Keep m4 (newO m4 (row [.int .i64 0, .int .i64 0, .int .i64 0, .int .i64 0] 23 false)) := (Keep.refl k4.wf).newO
  generalize newO m4 (row [.int .i64 0, .int .i64 0, .int .i64 0, .int .i64 0] 23 false) = m6 at r6 k46 ⊢
  have hfl4 : m4.fl ≤ m4.nx := k4.wf.1
  have part : ∀ (i : Nat) (x : List UInt8) (M : Mem), (f0 :: f1 :: f2 :: R)[i]? = some x → Keep m4 M → ∃ b o, a = some ⟨b, o, none⟩ ∧ rd M b (o + i) = some (strV x) := fun i x M hx kM =>
    (hS.keep k2.wf (k24.trans kM)).at (i := i) (v := strV x) (by rw [List.getElem?_map, hx]; rfl)
  have cell : ∀ M, Keep m4 M → rd M m2.nx 0 = some (.slice a n c) := fun M kM => (kM.row k4.wf r4).rd
  have hlen : n = R.length + 3 := by rw [← hPl]; simp
  refine ⟨_, _, _, cell _ k46, ⟨by omega, by omega⟩, ?_⟩
  obtain ⟨b, o, rfl, hr0⟩ := part 0 f0 m6 rfl k46
  rw [vPtr_some]
  refine ⟨bs f0, by simpa [strV] using hr0, ?_⟩
  have k6 := k4.trans k46
  refine parseInt_ok' k6.wf (he.keep hw k6) (hpl _ (by simp)) fun m7 v7 k67 => ⟨_, v7, rfl, ?_⟩
  have k47 := k46.trans k67
  have fl4 : ∀ M, Keep m4 M → M.fl ≤ m4.nx := fun M kM => by have := kM.fl; omega
  have r7 := k67.row k6.wf r6
  refine ⟨r7.okW (fl4 _ k47) (by simp), ?_⟩
  rw [mBind_iff]
  have r8 : Row (AX.wr m7 m4.nx 0 [.int .i64 (atoiV f0)]) m4.nx [.int .i64 (atoiV f0), .int .i64 0, .int .i64 0, .int .i64 0] 23 false := r7.wr1 (o := 0) (by simp)
  have k48 : Keep m4 (AX.wr m7 m4.nx 0 [.int .i64 (atoiV f0)]) := k47.wr (Nat.le_refl _)
  generalize AX.wr m7 m4.nx 0 [.int .i64 (atoiV f0)] = m8 at r8 k48 ⊢
  refine ⟨_, _, _, cell _ k48, ⟨by omega, by omega⟩, ?_⟩
  obtain ⟨b', o', hb', hr2⟩ := part 2 f2 m8 rfl k48
  cases hb'
  rw [vPtr_some]
  refine ⟨bs f2, by simpa [strV] using hr2, ?_⟩
  have k8 := k4.trans k48
  refine atoi_ok' k8.wf (he.keep hw k8) (hpl _ (by simp)) fun m9 v9 k89 => ⟨_, v9, rfl, ?_⟩
  have k49 := k48.trans k89
  have r9 := k89.row k8.wf r8
  refine ⟨r9.okW (fl4 _ k49) (by simp), ?_⟩
  rw [mBind_iff]
  have r10 : Row (AX.wr m9 m4.nx 2 [.int .i64 (atoiV f2)]) m4.nx [.int .i64 (atoiV f0), .int .i64 0, .int .i64 (atoiV f2), .int .i64 0] 23 false := r9.wr1 (o := 2) (by simp)
  have k410 : Keep m4 (AX.wr m9 m4.nx 2 [.int .i64 (atoiV f2)]) := k49.wr (Nat.le_refl _)
  generalize AX.wr m9 m4.nx 2 [.int .i64 (atoiV f2)] = m10 at r10 k410 ⊢
  refine words_ok ⟨_, _, _, rfl, ?_⟩
  have r11 : Row (newO m10 (row (wordsL.map strV) 9 false)) m10.nx (wordsL.map strV) 9 false := Row.newO
  have k1011 : Keep m10 (newO m10 (row (wordsL.map strV) 9 false)) := (Keep.refl k410.wf).newO
  generalize newO m10 (row (wordsL.map strV) 9 false) = m11 at r11 k1011 ⊢
  have k411 := k410.trans k1011
  refine index_ok2 (x := f1) k411.wf r11 (cell _ k411) (hS.keep k2.wf (k24.trans k411)) rfl fun m12 k1112 => ⟨_, rfl, ?_⟩
  have k412 := k411.trans k1112
  have r12 := (k1011.trans k1112).row k410.wf r10
  refine ⟨r12.okW (fl4 _ k412) (by simp), ?_⟩
  rw [mBind_iff]
  have r13 : Row (AX.wr m12 m4.nx 1 [.int .i64 (idxW f1)]) m4.nx [.int .i64 (atoiV f0), .int .i64 (idxW f1), .int .i64 (atoiV f2), .int .i64 0] 23 false := r12.wr1 (o := 1) (by simp)
  have k413 : Keep m4 (AX.wr m12 m4.nx 1 [.int .i64 (idxW f1)]) := k412.wr (Nat.le_refl _)
  generalize AX.wr m12 m4.nx 1 [.int .i64 (idxW f1)] = m13 at r13 k413 ⊢
  generalize he' : fieldsE (f0 :: f1 :: f2 :: R) = e at h
  refine joinK_of' (fun J => ∀ M, Keep m4 M → Row M m4.nx (encV e) 23 false → J M) (fun M kM rM => ?_) (fun J hJ => ?_)
  · refine ⟨_, rM.rd, _, rM.rd, _, rM.rd, _, rM.rd, ?_⟩
    have km := k4.trans kM
    refine text_ok km.wf (hp.keep hw km) ?_ fun m15 k15 => ⟨_, rfl, ?_⟩
    · rw [← he']
      refine ⟨(atoiV_bounds _).2, (atoiV_bounds _).2, ?_⟩
      show (if _ then _ else _) ≤ _
      split
      · exact (atoiV_bounds _).2
      · omega
    have k415 := kM.trans k15
    obtain ⟨o1, o2⟩ := out m15 k415
    have km15 := k4.trans k415
    refine split_neS (fun hne => ?_) (fun heq => ?_)
    · rw [if_neg (fun e => hne (by rw [e]))] at h
      exact out_ok o1 rfl o2 (0, 0, 0, 0) (h _ (km15.wr (Nat.le_refl _)))
    · rw [if_pos (bs_inj.1 heq)] at h
      have r15 := k15.row kM.wf rM
      refine ⟨_, r15.rd, _, r15.rd, _, r15.rd, _, r15.rd, ?_⟩
      exact out_ok o1 rfl o2 e (h _ (km15.wr (Nat.le_refl _)))
  · refine ⟨_, _, _, cell _ k413, split_ltI (fun h3 => ?_) (fun h3 => ?_)⟩
    · have hRl : 3 < n := by unfold lenI at h3; omega
      obtain ⟨f3, R', rfl⟩ : ∃ f3 R', R = f3 :: R' := by
        rcases R with _ | ⟨f3, R'⟩
        · simp at hlen; omega
        · exact ⟨_, _, rfl⟩
      refine ⟨_, _, _, cell _ k413, ⟨by omega, by omega⟩, ?_⟩
      obtain ⟨b', o', hb', hr3⟩ := part 3 f3 m13 rfl k413
      cases hb'
      rw [vPtr_some]
      refine ⟨bs f3, by simpa [strV] using hr3, ?_⟩
      have k13 := k4.trans k413
      refine parseInt_ok' k13.wf (he.keep hw k13) (hpl _ (by simp)) fun m18 v18 k18 => ⟨_, v18, rfl, ?_⟩
      have k418 := k413.trans k18
      have r18 := k18.row k13.wf r13
      refine ⟨r18.okW (fl4 _ k418) (by simp), ?_⟩
      rw [mBind_iff]
      have r19 : Row (AX.wr m18 m4.nx 3 [.int .i64 (atoiV f3)]) m4.nx [.int .i64 (atoiV f0), .int .i64 (idxW f1), .int .i64 (atoiV f2), .int .i64 (atoiV f3)] 23 false := r18.wr1 (o := 3) (by simp)
      refine hJ _ (k418.wr (Nat.le_refl _)) ?_
      rw [← he']
      exact r19
    · have hR : R = [] := by
        have : R.length = 0 := by unfold lenI at h3; omega
        exact List.length_eq_zero_iff.1 this
      subst hR
      refine hJ _ k413 ?_
      rw [← he']
      exact r13

end Go.Proofs.YtdeknemdeijljaaDoor.vc
