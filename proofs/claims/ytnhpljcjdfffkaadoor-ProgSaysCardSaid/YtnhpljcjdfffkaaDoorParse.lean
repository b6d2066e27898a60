/-
  Package prog: Parse.
-/
import Derived.Test.YtnhpljcjdfffkaaDoorArg
import Derived.Test.YtnhpljcjdfffkaaDoorPlain
namespace Go.Proofs.YtnhpljcjdfffkaaDoor.vc
open Go Go.AX
set_option linter.unusedVariables false
set_option linter.unusedSimpArgs false
set_option maxRecDepth 100000

theorem u8_int (c : UInt8) : (Int.toNat (c.toNat : Int)).toUInt8 = c := by simp

theorem index_ok {s : List UInt8} {c : UInt8} {m : Mem} {Q : Value → Mem → Prop} (h : Q (.int .i64 (Lib.indexByte s c)) m) : CallW cx 48 [.string (bs s), .string (bs [c])] m Q := by
  apply F48_ok; unfold F48
  refine joinK_of' (fun J => J (eqS (bs [c]) (bs s)) m) ?_ (fun J hJ => ?_)
  · refine split_eqS (fun he => ?_) (fun _ => ?_)
    · rw [bs_inj] at he
      subst he
      have : Lib.indexByte [c] c = 0 := by unfold Lib.indexByte; rw [if_pos (beq_self_eq_true c)]
      rw [this] at h
      exact h
    · refine split_eq (fun _ => ?_) (fun hne => absurd rfl hne)
      refine ⟨by decide, c, rfl, ?_⟩
      apply F63_ok; unfold F63
      refine CallW.ov (f := indexByteA) (by kernel_rfl) rfl ⟨_, rfl, _, rfl, ?_⟩
      show Q (.int .i64 (Lib.indexByte s (Int.toNat (c.toNat : Int)).toUInt8)) m
      rw [u8_int]; exact h
  · refine split_eq (fun h0 => ?_) (fun _ => hJ)
    simp [lenI, lenS] at h0

theorem index_ok' {s : List UInt8} {c : UInt8} {m : Mem} {Q : Value → Mem → Prop} (h : Q (.int .i64 (Lib.indexByte s c)) m) : CallW cx 47 [.string (bs s), .string (bs [c])] m Q := by
  apply F47_ok; unfold F47
  exact index_ok ⟨_, rfl, h⟩

theorem indexByte_lt {c : UInt8} : ∀ {l : List UInt8}, Lib.indexByte l c < l.length
  | [] => by show (-1 : Int) < _; simp
  | b :: r => by
    have ih := indexByte_lt (c := c) (l := r)
    unfold Lib.indexByte
    simp only [List.length_cons]
    split
    · omega
    · split <;> omega

theorem cut_ok {s : List UInt8} {c : UInt8} {m : Mem} {Q : Value → Mem → Prop} (hw : Wf m) (hs : s.length ≤ 1000000)
    (h : ∀ m', Keep m m' → if Lib.indexByte s c < 0 then Q (.tuple #[strV s, strV [], .bool false]) m' else Q (.tuple #[strV (s.take (Lib.indexByte s c).toNat), strV (s.drop ((Lib.indexByte s c).toNat + 1)), .bool true]) m') :
    CallW cx 26 [.string (bs s), .string (bs [c])] m Q := by
  apply F26_ok; unfold F26
  apply F36_ok; unfold F36
  have hlt := indexByte_lt (c := c) (l := s)
  refine index_ok ⟨_, rfl, split_leI (fun h0 => ?_) (fun h0 => ?_)⟩
  · rw [mBind_iff]
    have := h _ ((Keep.refl hw).bump (n := 12))
    rw [if_neg (by omega)] at this
    obtain ⟨i, hi⟩ : ∃ i : Nat, Lib.indexByte s c = i := ⟨(Lib.indexByte s c).toNat, by omega⟩
    rw [hi] at hlt ⊢ this
    simp only [Int.toNat_natCast] at this
    refine ⟨_, sliceOp_str un9 (boundA_some (by omega)) boundA_none, _, sliceOp_str (i := i + 1) un9 boundA_none ?_, ?_⟩
    · show boundA 0 (some (.int .i64 (addI .i64 (i : Int) (lenI (lenS (bs [c])))))) s.length = some (i + 1)
      rw [show lenI (lenS (bs [c])) = 1 from rfl, addI_64 (by omega) (by omega)]
      exact boundA_int (by omega) (by omega)
    · refine ⟨_, _, _, rfl, ?_⟩
      have e1 : (s.drop 0).take (i - 0) = s.take i := by simp
      have e2 : (s.drop (i + 1)).take (s.length - (i + 1)) = s.drop (i + 1) := List.take_of_length_le (by simp)
      show Q (.tuple #[strV ((s.drop 0).take (i - 0)), strV ((s.drop (i + 1)).take (s.length - (i + 1))), .bool true]) _
      rw [e1, e2]
      exact this
  · have := h m (Keep.refl hw)
    rw [if_pos (by omega)] at this
    exact ⟨_, _, _, rfl, this⟩

/-! ## strconv.ParseInt, strconv.Atoi -/

theorem size_bs (l : List UInt8) : (bs l).size = l.length := by simp [ByteArray.size]

theorem eq78 (m : Mem) (a b : Int) : eqV cx m 40 57 (.iface 78 (.int .i64 a)) (.iface 78 (.int .i64 b)) = some (decide (a = b)) := by kernel_rfl
theorem eqn (m : Mem) (t : TypeId) (v : Value) : eqV cx m 40 57 (.iface t v) .nilIface = some false := by kernel_rfl
theorem eqnn (m : Mem) : eqV cx m 40 57 .nilIface .nilIface = some true := by kernel_rfl

theorem clone_at {s : List UInt8} {m : Mem} {Q : Value → Mem → Prop} (hs : s.length ≤ 1000000) (h : Q (strV s) m) : CallW cx 69 [.string (bs s)] m Q := by
  refine CallW.ov (f := cloneA) (by kernel_rfl) (r := strV s) (m' := m) ?_ h
  unfold cloneA
  simp only [size_bs, Nat.ble_eq_true_of_le hs]
  rfl

theorem errNew_ok {f s : List UInt8} {m : Mem} {Q : Value → Mem → Prop} (hw : Wf m) (he : ErrsT m) (hs : s.length ≤ 1000000) (h : ∀ m' p, Keep m m' → Q (.pointer p) m') :
    CallW cx 50 [.string (bs f), .string (bs s)] m Q ∧ CallW cx 51 [.string (bs f), .string (bs s)] m Q := by
  have k1 : Keep m (AX.bump m 7) := (Keep.refl hw).bump
  have hmem : ∀ o, Keep m (AX.addO (setFl (setFl (AX.bump m 7) m.nx) (AX.bump m 7).fl) (m.nx + 5) o) := fun o => by
    refine ⟨Wf.addO (m := setFl (setFl (AX.bump m 7) m.nx) (AX.bump m 7).fl) k1.wf (show m.nx + 5 < m.nx + 7 by omega), ?_, rfl, fun b hb => ?_⟩
    · show m.nx ≤ m.nx + 7; omega
    · rw [addO_get, if_neg (by omega)]; rfl
  constructor
  · apply F50_ok; unfold F50
    rw [mBind_iff]
    obtain ⟨v, hv⟩ := he 1 (.inl rfl)
    refine clone_at hs ⟨_, rfl, _, rd_keep k1 hw hv, ?_⟩
    show mBind _ _
    rw [mBind_iff]
    exact h _ _ (hmem _)
  · apply F51_ok; unfold F51
    rw [mBind_iff]
    obtain ⟨v, hv⟩ := he 2 (.inr rfl)
    refine clone_at hs ⟨_, rfl, _, rd_keep k1 hw hv, ?_⟩
    show mBind _ _
    rw [mBind_iff]
    exact h _ _ (hmem _)

theorem toError_ok {f s : List UInt8} {x y e : Int} {m : Mem} {Q : Value → Mem → Prop} (hw : Wf m) (he : ErrsT m) (hs : s.length ≤ 1000000) (h12 : e = 1 ∨ e = 2) (h : ∀ m' p, Keep m m' → Q (.iface 83 (.pointer p)) m') :
    CallW cx 38 [.string (bs f), .string (bs s), .int .i64 x, .int .i64 y, .iface 78 (.int .i64 e)] m Q := by
  apply F38_ok; unfold F38
  refine ⟨(fun h => by cases h), _, eq78 m e 2, ?_⟩
  rcases h12 with rfl | rfl
  · rw [show decide ((1 : Int) = 2) = false from rfl, splitB_false]
    refine ⟨(fun h => by cases h), _, eq78 m 1 1, ?_⟩
    rw [show decide ((1 : Int) = 1) = true from rfl, splitB_true]
    exact (errNew_ok hw he hs fun m' p k => ⟨_, rfl, h m' p k⟩).2
  · rw [show decide ((2 : Int) = 2) = true from rfl, splitB_true]
    exact (errNew_ok hw he hs fun m' p k => ⟨_, rfl, h m' p k⟩).1

/-- the number and the error -/
def NumR (s : List UInt8) (x : Int) (v : Value) : Prop := match Lib.atoiAll s with
  | .ok u => x = u ∧ v = .nilIface
  | .range => x = Lib.atoiSat s ∧ ∃ p, v = .iface 83 (.pointer p)
  | _ => x = 0 ∧ ∃ p, v = .iface 83 (.pointer p)

theorem intSat_64 (s : List UInt8) : Lib.intSat 64 s = Lib.atoiSat s := by
  unfold Lib.intSat Lib.atoiSat
  rfl

theorem parseInt_ok' {s : List UInt8} {m : Mem} {Q : Value → Mem → Prop} (hw : Wf m) (he : ErrsT m) (hs : s.length ≤ 1000000) (h : ∀ m' x v, Keep m m' → NumR s x v → Q (.tuple #[.int .i64 x, v]) m') : CallW cx 27 [.string (bs s), .int .i64 10, .int .i64 64] m Q := by
  apply F27_ok; unfold F27
  refine CallW.ov (f := parseIntA 78) (r := Lib.intTuple 78 (Lib.intSat 64 s) (Lib.parseIntB 64 s)) (m' := m) (by kernel_rfl) ?_ ?_
  · unfold parseIntA
    simp only [size_bs, Nat.ble_eq_true_of_le hs]
  rw [Lib.parseIntB_64, intSat_64]
  have hN : ∀ x v, NumR s x v = NumR s x v := fun _ _ => rfl
  unfold NumR at h
  cases hr : Lib.atoiAll s
  · rename_i u
    rw [hr] at h
    exact ⟨u, _, rfl, _, eqnn m, h m _ _ (Keep.refl hw) ⟨rfl, rfl⟩⟩
  · skip
    rw [hr] at h
    refine ⟨0, _, rfl, _, eqn m _ _, ?_⟩
    rw [show (!false) = true from rfl, splitB_true]
    exact toError_ok (f := [80, 97, 114, 115, 101, 73, 110, 116]) hw he hs (.inr rfl) fun m' p k => ⟨_, rfl, h m' _ _ k ⟨rfl, p, rfl⟩⟩
  · skip
    rw [hr] at h
    refine ⟨_, _, rfl, _, eqn m _ _, ?_⟩
    rw [show (!false) = true from rfl, splitB_true]
    exact toError_ok (f := [80, 97, 114, 115, 101, 73, 110, 116]) hw he hs (.inl rfl) fun m' p k => ⟨_, rfl, h m' _ _ k ⟨rfl, p, rfl⟩⟩

theorem atoi_ok' {s : List UInt8} {m : Mem} {Q : Value → Mem → Prop} (hw : Wf m) (he : ErrsT m) (hs : s.length ≤ 1000000) (h : ∀ m' v, Keep m m' → Q (.tuple #[.int .i64 (atoiV s), v]) m') : CallW cx 28 [.string (bs s)] m Q := by
  apply F28_ok; unfold F28
  refine CallW.ov (f := atoiA 78) (r := Lib.intTuple 78 (Lib.atoiSat s) (Lib.atoiAll s)) (m' := m) (by kernel_rfl) ?_ ?_
  · unfold atoiA
    simp only [size_bs, Nat.ble_eq_true_of_le hs]
  unfold atoiV at h
  cases hr : Lib.atoiAll s
  · rename_i u
    rw [hr] at h
    exact ⟨u, _, rfl, _, eqnn m, h m _ (Keep.refl hw)⟩
  · skip
    rw [hr] at h
    refine ⟨0, _, rfl, _, eqn m _ _, ?_⟩
    rw [show (!false) = true from rfl, splitB_true]
    exact toError_ok (f := [65, 116, 111, 105]) hw he hs (.inr rfl) fun m' p k => ⟨_, rfl, h m' _ k⟩
  · skip
    rw [hr] at h
    refine ⟨_, _, rfl, _, eqn m _ _, ?_⟩
    rw [show (!false) = true from rfl, splitB_true]
    exact toError_ok (f := [65, 116, 111, 105]) hw he hs (.inl rfl) fun m' p k => ⟨_, rfl, h m' _ k⟩

/-! ## strings.SplitN -/

theorem pieces_succ (c : UInt8) (k : Nat) (s : List UInt8) : pieces c (k + 1) s = if Lib.indexByte s c < 0 then [s] else s.take (Lib.indexByte s c).toNat :: pieces c k (s.drop ((Lib.indexByte s c).toNat + 1)) := rfl

theorem repL_one (v : Value) : ∀ n, repL [v] n = List.replicate n v
  | 0 => rfl
  | n + 1 => by rw [repL, repL_one v n, List.replicate_succ]; rfl

theorem mnI_nat (a b : Nat) : mnI (a : Int) (b : Int) = ((min a b : Nat) : Int) := by
  unfold mnI
  split <;> omega

theorem set_rep {done : List Value} {v z : Value} {q : Nat} (hq : 0 < q) : (done ++ List.replicate q z).set done.length v = done ++ [v] ++ List.replicate (q - 1) z := by
  obtain ⟨p, rfl⟩ : ∃ p, q = p + 1 := ⟨q - 1, by omega⟩
  rw [List.replicate_succ]
  simp

theorem split_ok {s : List UInt8} {c : UInt8} {m : Mem} {Q : Value → Mem → Prop} (hw : Wf m) (hs : s.length ≤ 1000000)
    (h : ∀ a n c' m', Keep m m' → SlIs m' a n ((pieces c (min 9 (s.length + 1) - 1) s).map strV) → n ≤ 9 → Q (.slice a n c') m') : CallW cx 25 [.string (bs s), .string (bs [c]), .int .i64 9] m Q := by
  apply F25_ok; unfold F25
  apply F35_ok; unfold F35
  refine split_eq (fun h => by cases h) (fun _ => split_eqS (fun h => by cases h) (fun _ => ?_))
  refine joinK_of' (fun J => J 9 m) ?_ (fun J hJ => split_ltI (fun h => by omega) (fun _ => hJ))
  obtain ⟨N, hN⟩ : ∃ N, min 9 (s.length + 1) = N + 1 := ⟨min 9 (s.length + 1) - 1, by omega⟩
  have hN9 : N + 1 ≤ 9 := by omega
  have eN : mnI 9 (addI .i64 (lenI (lenS (bs s))) 1) = ((N + 1 : Nat) : Int) := by
    show mnI ((9 : Nat) : Int) (addI .i64 ((s.length : Nat) : Int) 1) = _
    rw [addI_64 (by omega) (by omega), show ((s.length : Nat) : Int) + 1 = ((s.length + 1 : Nat) : Int) by omega, mnI_nat, hN]
  rw [hN] at h
  simp only [Nat.add_sub_cancel] at h
  simp only [eN, Int.toNat_natCast]
  refine ⟨⟨by omega, by omega, by omega, by omega⟩, ?_⟩
  rw [mBind_iff, repL_one]
  generalize hm3 : newO m _ = m3
  have k3 : Keep m m3 := hm3 ▸ (Keep.refl hw).newO
  have r3 : Row m3 m.nx (List.replicate (N + 1) (strV [])) 9 false := by rw [← hm3]; exact Row.newO
  have hfl := hw.1
  have esub : subI .i64 ((N + 1 : Nat) : Int) 1 = ((N : Nat) : Int) := by rw [subI_64 (by omega) (by omega)]; omega
  simp only [esub]
  refine joinK_of' (fun J => ∀ (done : List (List UInt8)) (rest : List UInt8) m4, done.length ≤ N → pieces c N s = done ++ [rest] → Keep m m4 → Row m4 m.nx (done.map strV ++ List.replicate (N + 1 - done.length) (strV [])) 9 false → J (bs rest) (done.length : Int) m4) (fun done rest m4 hd hp k4 r4 => ?_) (fun J hJ => ?_)
  · refine ⟨⟨by omega, by omega⟩, r4.okW (by have := k4.fl; omega) (by simp; omega), ?_⟩
    rw [mBind_iff]
    simp only [Nat.zero_add, Nat.mul_one, Int.toNat_natCast]
    have r5 := r4.wr1 (o := done.length) (v := strV rest) (by simp; omega)
    have k5 : Keep m (AX.wr m4 m.nx done.length [strV rest]) := k4.wr (Nat.le_refl _)
    have hset : (done.map strV ++ List.replicate (N + 1 - done.length) (strV [])).set done.length (strV rest) = ((done ++ [rest]).map strV) ++ List.replicate (N - done.length) (strV []) := by
      have := set_rep (done := done.map strV) (v := strV rest) (z := strV []) (q := N + 1 - done.length) (by omega)
      rw [List.length_map] at this
      rw [this, List.map_append, show N + 1 - done.length - 1 = N - done.length by omega]; rfl
    rw [hset, ← hp] at r5
    have hpl : (pieces c N s).length = done.length + 1 := by rw [hp]; simp
    have un37 : cx.un.get 37 = some (.slice 9) := by kernel_rfl
    have e1 : addI .i64 (done.length : Int) 1 = ((done.length + 1 : Nat) : Int) := by rw [addI_64 (by omega) (by omega)]; rfl
    rw [e1]
    refine ⟨_, _, _, sliceOp_at (s := 1) (e := 9) (i := 0) (j := done.length + 1) un37 (by kernel_rfl) (boundA_some (by omega)) boundA_none (r5.sameSize (by kernel_rfl)) (by omega), _, _, _, rfl, ?_⟩
    refine h _ _ _ _ k5 ⟨by simp [hpl], fun i v hv => ⟨m.nx, 0 + 0 * 1, rfl, ?_⟩⟩ (by omega)
    show rd (AX.wr m4 m.nx done.length [strV rest]) m.nx (0 + 0 * 1 + i) = some v
    rw [r5.rd, show 0 + 0 * 1 + i = i by omega, List.getElem?_append_left (by
      have := (List.getElem?_eq_some_iff.1 hv).1
      exact this)]
    exact hv
  · refine forN1 (n := N) (by omega) (fun k (x : ByteArray) m6 => ∃ (done : List (List UInt8)) (rest : List UInt8), x = bs rest ∧ done.length = k ∧ pieces c N s = done ++ pieces c (N - k) rest ∧ rest.length ≤ s.length ∧ Keep m m6 ∧ Row m6 m.nx (done.map strV ++ List.replicate (N + 1 - k) (strV [])) 9 false)
      ⟨[], s, rfl, rfl, rfl, Nat.le_refl _, k3, by simpa using r3⟩ ?_
    rintro k x m6 hk ⟨done, rest, rfl, hd, hp, hrl, k6, r6⟩ I w hI
    subst hd
    refine split_ltI (fun hlt => ?_) (fun hge => ?_)
    · have hlt : done.length < N := by omega
      obtain ⟨q, hq⟩ : ∃ q, N - done.length = q + 1 := ⟨N - done.length - 1, by omega⟩
      rw [hq, pieces_succ] at hp
      have hil := indexByte_lt (c := c) (l := rest)
      refine index_ok' ⟨_, rfl, split_ltI (fun hneg => ?_) (fun hpos => ?_)⟩
      · rw [if_pos hneg] at hp
        exact hJ done rest m6 (by omega) hp k6 r6
      · rw [if_neg (by omega)] at hp
        obtain ⟨i, hi⟩ : ∃ i : Nat, Lib.indexByte rest c = i := ⟨(Lib.indexByte rest c).toNat, by omega⟩
        rw [hi] at hil hp ⊢
        simp only [Int.toNat_natCast] at hp
        refine ⟨_, sliceOp_str un9 (j := i) ?_ boundA_none, ?_⟩
        · rw [addI_64 (by omega) (by omega)]; exact boundA_int (by omega) (by omega)
        refine ⟨⟨by omega, by omega⟩, r6.okW (by have := k6.fl; omega) (by simp; omega), ?_⟩
        rw [mBind_iff]
        simp only [Nat.zero_add, Nat.mul_one, Int.toNat_natCast]
        have r7 := r6.wr1 (o := done.length) (v := strV (rest.take i)) (by simp; omega)
        have k7 : Keep m (AX.wr m6 m.nx done.length [strV (rest.take i)]) := k6.wr (Nat.le_refl _)
        have hset : (done.map strV ++ List.replicate (N + 1 - done.length) (strV [])).set done.length (strV (rest.take i)) = ((done ++ [rest.take i]).map strV) ++ List.replicate (N + 1 - (done.length + 1)) (strV []) := by
          have := set_rep (done := done.map strV) (v := strV (rest.take i)) (z := strV []) (q := N + 1 - done.length) (by omega)
          rw [List.length_map] at this
          rw [this, List.map_append, show N + 1 - done.length - 1 = N + 1 - (done.length + 1) by omega]; rfl
        rw [hset] at r7
        have e7 : ((rest.drop 0).take (i - 0)) = rest.take i := by simp
        rw [e7]
        refine ⟨_, sliceOp_str un9 (i := i + 1) boundA_none ?_, ?_⟩
        · show boundA 0 (some (.int .i64 (addI .i64 (i : Int) (lenI (lenS (bs [c])))))) rest.length = some (i + 1)
          rw [show lenI (lenS (bs [c])) = 1 from rfl, addI_64 (by omega) (by omega)]
          exact boundA_int (by omega) (by omega)
        · refine hI _ _ hlt ⟨done ++ [rest.take i], rest.drop (i + 1), ?_, by simp, ?_, by simp; omega, k7, r7⟩
          · rw [List.take_of_length_le (by simp)]
          · rw [hp, show N - (done.length + 1) = q by omega]; simp
    · have hkN : done.length = N := by omega
      rw [hkN, Nat.sub_self] at hp
      exact hJ done rest m6 (by omega) hp k6 r6

/-! ## Parse -/

theorem pieces_len {c : UInt8} : ∀ {k : Nat} {s x : List UInt8}, x ∈ pieces c k s → x.length ≤ s.length
  | 0, s, x, h => by
    simp only [pieces, List.mem_singleton] at h
    subst h; exact Nat.le_refl _
  | k + 1, s, x, h => by
    rw [pieces_succ] at h
    split at h
    · simp only [List.mem_singleton] at h
      subst h; exact Nat.le_refl _
    · rcases List.mem_cons.1 h with rfl | h
      · simp; omega
      · have := pieces_len h
        simp at this; omega

theorem mapM_take {α β : Type} {f : α → Option β} {l : List α} {k : Nat} {x : α} {done : List β} (hx : l[k]? = some x) (hd : (l.take k).mapM f = some done) : (l.take (k + 1)).mapM f = (f x).map fun y => done ++ [y] := by
  rw [List.take_add_one, hx, List.mapM_append, hd]
  simp only [Option.toList_some, List.mapM_cons, List.mapM_nil]
  cases f x <;> rfl

theorem mapM_none {α β : Type} {f : α → Option β} : ∀ {l : List α} {x : α}, x ∈ l → f x = none → l.mapM f = none
  | [], _, h, _ => by cases h
  | y :: r, x, h, hf => by
    rw [List.mapM_cons]
    rcases List.mem_cons.1 h with rfl | h
    · rw [hf]; rfl
    · cases f y with
      | none => rfl
      | some z =>
        have := mapM_none h hf
        simp only [bind, Option.bind, this]

def ParseR (m : Mem) (s : List UInt8) (r : Value) : Prop := match parseP s with
  | none => r = .tuple #[.slice none 0 0, .bool false]
  | some p => ∃ a n c, r = .tuple #[.slice a n c, .bool true] ∧ PS m a n p

theorem parse_ok {s : List UInt8} {m : Mem} {Q : Value → Mem → Prop} (hw : Wf m) (hp : PowT m) (he : ErrsT m) (hs : s.length ≤ 1000000)
    (h : ∀ r m', Keep m m' → ParseR m' s r → Q r m') : CallW cx 10 [.string (bs s)] m Q := by
  apply F10_ok; unfold F10
  refine split_ok (c := 43) hw hs fun a n c m1 k1 hS hn9 => ⟨a, n, c, rfl, ?_⟩
  generalize hP : pieces 43 (min 9 (s.length + 1) - 1) s = P at hS
  have hPl : P.length = n := by have := hS.1; simpa using this
  have hread : readP s = P.mapM step1 := by unfold readP; rw [hP]
  refine forN3 (n := n) (by omega) (fun k a4 n4 c4 m2 => Keep m m2 ∧ Keep m1 m2 ∧ ∃ done, (P.take k).mapM step1 = some done ∧ done.length = k ∧ Grow m2 a4 n4 c4 2 39 (done.flatMap encS) ∧ ∀ b ∈ blk a4, m1.nx ≤ b)
    ⟨k1, Keep.refl k1.wf, [], rfl, rfl, Grow.nil _ _ _, fun _ h => by cases h⟩ ?_
  rintro k a4 n4 c4 m2 hk ⟨k2, k12, done, hd, hdl, hG, hb⟩ I w hI
  refine split_lt (fun hlt => ?_) (fun hge => ?_)
  · obtain ⟨x, hx⟩ : ∃ x, P[k]? = some x := ⟨P[k]'(by omega), List.getElem?_eq_getElem (by omega)⟩
    have hxl : x.length ≤ 1000000 := by
      have := pieces_len (c := 43) (s := s) (x := x) (by rw [hP]; exact List.mem_of_getElem? hx)
      omega
    obtain ⟨b, o, rfl, hr⟩ := (hS.keep k1.wf k12).at (i := k) (v := strV x) (by simp [hx])
    refine ⟨⟨by omega, by omega⟩, ?_⟩
    rw [vPtr_some]
    refine ⟨bs x, by simpa [strV] using hr, ?_⟩
    -- what comes of a piece that is read
    have main : ∀ (sem : List UInt8) (hold : Bool) (num : List UInt8) (m3 : Mem), Keep m2 m3 → num.length ≤ 1000000 → sem.length ≤ 1000000 →
        (step1 x = match Lib.atoiAll num with | .ok v => some (if hold then atoiV sem else 0, v) | _ => none) →
        CallW cx 27 [.string (bs num), .int .i64 10, .int .i64 64] m3 fun r28 m4 => (∃ (x28 : Int), (∃ (v28 : Value), r28 = (.tuple #[.int .i64 (x28), v28]) ∧ (mBind (newO m4 (row [.int .i64 (0 : Int), .int .i64 (0 : Int)] 39 false)) fun m5 => (okW m5 m4.nx (0) 2 ∧ (mBind (wr m5 m4.nx (0) [.int .i64 (0 : Int), .int .i64 (x28)]) fun m6 => (joinK (fun  (m7 : Mem) => (∃ r : Bool, eqV cx m7 40 57 (v28) (.nilIface) = some r ∧ (splitB (!r)
          (Q (.tuple #[.slice none (0) (0), .bool (false)]) m7)
          (∃ (x43 : Int), rd m7 m4.nx (0) = some (.int .i64 (x43)) ∧ (∃ (x43_3 : Int), rd m7 m4.nx (1) = some (.int .i64 (x43_3)) ∧ (mBind (newO m7 (row [.int .i64 (x43), .int .i64 (x43_3)] 39 false)) fun m8 => (∃ (a45 : Option Addr) (n45 c45 : Nat) (m9 : Mem), appendA cx m8 [24, 24] [.slice a4 (n4) (c4), .slice (some ⟨m7.nx, 0, none⟩) (1) (1)] = some (.slice a45 (n45) (c45), m9) ∧ (∃ n_4 : Nat, n_4 < w ∧ I a45 (n45) (c45) (addI .i64 (k : Int) (1 : Int)) m9 n_4)))))))) fun J =>
          (splitB (hold)
          (CallW cx 28 [.string (bs sem)] m6 fun r36 m10 => (∃ (x36 : Int), (∃ (v36 : Value), r36 = (.tuple #[.int .i64 (x36), v36]) ∧ (okW m10 m4.nx (0) 1 ∧ (mBind (wr m10 m4.nx (0) [.int .i64 (x36)]) fun m11 => (J  m11))))))
          (J  m6)))))))) := by
      intro sem hold num m3 k23 hnl hsl hst
      have k3 := k2.trans k23
      refine parseInt_ok' k3.wf (he.keep hw k3) hnl fun m4 x28 v28 k34 hN => ⟨x28, v28, rfl, ?_⟩
      have k4 := k3.trans k34
      have k24 := k23.trans k34
      rw [mBind_iff]
      have rr : Row (newO m4 (row [.int .i64 0, .int .i64 0] 39 false)) m4.nx _ 39 false := Row.newO
      refine ⟨rr.okW (by have := k4.wf.1; simpa using this) (by simp), ?_⟩
      rw [mBind_iff]
      have r6 : Row _ m4.nx [.int .i64 0, .int .i64 x28] 39 false := rr.wr (o := 0) (vs := [.int .i64 0, .int .i64 x28]) (by simp)
      have k46 : Keep m4 (AX.wr (newO m4 (row [.int .i64 0, .int .i64 0] 39 false)) m4.nx 0 [.int .i64 0, .int .i64 x28]) := (Keep.refl k4.wf).newO.wr (Nat.le_refl _)
      generalize AX.wr (newO m4 (row [.int .i64 0, .int .i64 0] 39 false)) m4.nx 0 [.int .i64 0, .int .i64 x28] = m6 at r6 k46 ⊢
      refine joinK_of' (fun J => ∀ m7, Keep m4 m7 → Row m7 m4.nx [.int .i64 (if hold then atoiV sem else 0), .int .i64 x28] 39 false → J m7) (fun m7 k47 r7 => ?_) (fun J hJ => ?_)
      · have k7 := k4.trans k47
        have k27 := k24.trans k47
        unfold NumR at hN
        have bad : step1 x = none → Q (.tuple #[.slice none 0 0, .bool false]) m7 := fun hno => by
          refine h _ m7 k7 ?_
          unfold ParseR parseP
          rw [hread, mapM_none (List.mem_of_getElem? hx) hno]
        cases hr : Lib.atoiAll num
        · rename_i v
          rw [hr] at hN hst
          obtain ⟨rfl, rfl⟩ := hN
          refine ⟨true, eqnn m7, ?_⟩
          rw [show (!true) = false from rfl, splitB_false]
          refine ⟨_, r7.rd, _, r7.rd, ?_⟩
          rw [mBind_iff]
          have hG7 := k27.grow k2.wf hG
          have hlen : n4 = k := by
            have h1 := hG.1
            rw [flat_length encS_len, hdl] at h1
            omega
          obtain ⟨m9, e9, w9, f9, n9, g9⟩ := push (cx := cx) (t := 24) (vs := encS (if hold then atoiV sem else 0, x28)) (by kernel_rfl) k7.wf hG7 rfl rfl (by omega)
          have k9 := Keep.of_fr k7 w9 f9 (fun b' hb' => Nat.le_trans k1.nx (hb b' hb'))
          have k19 : Keep m1 m9 := Keep.of_fr (k12.trans k27) w9 f9 hb
          refine ⟨_, _, _, m9, e9, hI _ _ _ _ hlt ⟨k9, k19, done ++ [(if hold then atoiV sem else 0, x28)], ?_, by simp [hdl], ?_, fun b' h => ?_⟩⟩
          · rw [mapM_take hx hd, hst]; rfl
          · rw [List.flatMap_append]; simpa using g9
          · have := (k12.trans k27).nx
            simp [blk] at h; omega
        · skip
          rw [hr] at hN hst
          obtain ⟨_, p, rfl⟩ := hN
          refine ⟨false, eqn m7 _ _, ?_⟩
          rw [show (!false) = true from rfl, splitB_true]
          exact bad hst
        · skip
          rw [hr] at hN hst
          obtain ⟨_, p, rfl⟩ := hN
          refine ⟨false, eqn m7 _ _, ?_⟩
          rw [show (!false) = true from rfl, splitB_true]
          exact bad hst
      · refine split_b (fun hh => ?_) (fun hh => ?_)
        · subst hh
          have k6 := k4.trans k46
          refine atoi_ok' k6.wf (he.keep hw k6) hsl fun m10 v36 k610 => ⟨_, v36, rfl, ?_⟩
          have r10 := k610.row k46.wf r6
          have k410 := k46.trans k610
          refine ⟨r10.okW (by have h1 := k410.fl; have := k4.wf.1; omega) (by simp), ?_⟩
          rw [mBind_iff]
          exact hJ _ (k410.wr (Nat.le_refl _)) (r10.wr1 (o := 0) (by simp))
        · subst hh
          exact hJ _ k46 r6
    refine cut_ok (c := 64) k2.wf hxl fun m3 k3 => ?_
    split
    · rename_i hneg
      refine ⟨_, _, _, rfl, main [] false x m3 k3 hxl (by simp) ?_⟩
      unfold step1
      rw [if_pos hneg]
      cases Lib.atoiAll x <;> rfl
    · rename_i hpos
      refine ⟨_, _, _, rfl, main _ true _ m3 k3 (by simp; omega) (by simp; omega) ?_⟩
      unfold step1
      rw [if_neg hpos]
      cases Lib.atoiAll (x.take (Lib.indexByte x 64).toNat) <;> rfl
  · rw [List.take_of_length_le (by omega)] at hd
    rw [hd] at hread
    have hPS : PS m2 a4 n4 done := Arr.of_grow encS_len (by omega) hG
    have hres : ∀ m', Keep m2 m' → (s = [] ∨ txt done ≠ s → Q (.tuple #[.slice none 0 0, .bool false]) m') ∧ (¬ (s = [] ∨ txt done ≠ s) → Q (.tuple #[.slice a4 n4 c4, .bool true]) m') := fun m' k' => by
      refine ⟨fun hc => h _ m' (k2.trans k') ?_, fun hc => h _ m' (k2.trans k') ?_⟩
      · unfold ParseR parseP
        rw [hread]
        simp only
        rw [if_pos hc]
        exact True.intro
      · unfold ParseR parseP
        rw [hread]
        simp only
        rw [if_neg hc]
        exact ⟨_, _, _, rfl, hPS.keep k2.wf k'⟩
    refine split_eqS (fun hs0 => ?_) (fun hs0 => ?_)
    · have : s = [] := bs_inj.1 (show bs s = bs [] from hs0)
      exact (hres m2 (Keep.refl k2.wf)).1 (.inl this)
    · have hs0 : s ≠ [] := fun e => hs0 (by rw [e])
      refine text_ok k2.wf (hp.keep hw k2) hPS fun m3 k3 => ⟨_, rfl, split_neS (fun hne => ?_) (fun heq => ?_)⟩
      · exact (hres m3 k3).1 (.inr fun e => hne (by rw [e]))
      · exact (hres m3 k3).2 fun hc => hc.elim hs0 fun hc => hc (bs_inj.1 heq)

end Go.Proofs.YtnhpljcjdfffkaaDoor.vc
