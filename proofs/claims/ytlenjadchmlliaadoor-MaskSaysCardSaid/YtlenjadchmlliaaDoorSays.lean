/-
  'Rows.MaskSaysCardSaid': the law MaskSays, called where the library's tables stand as the program's text lays them, returns true and leaves its arguments. No further condition narrows it.
-/
import Derived.Test.YtlenjadchmlliaaDoorLists
import Derived.Test.YtlenjadchmlliaaDoorDoor
import Derived.Test.YtlenjadchmlliaaDoorCards
import Derived.Test.YtlenjadchmlliaaDoorTie
namespace Go.Proofs.YtlenjadchmlliaaDoor.vc
open Go Go.AX
set_option linter.unusedVariables false
set_option linter.unusedSimpArgs false

theorem says_law {m : Mem} {x : Nat} {i : Int} {a : Option Addr} {n c : Nat} {l : List Int} (hx : x < 18446744073709551616) (hw : Wf m) (ht : tabsIn tabs m) (hl : SlIs m a n (l.map (Value.int .i64))) :
    F6 (x : Int) i a n c m fun r _ => r = .bool true := by
  have hlen : l.length = n := by have := hl.1; simpa using this
  unfold F6
  refine trueT_ok ov8 ht ⟨true, rfl, ?_⟩
  rw [show (!true) = false from rfl, splitB_false]
  rw [splitB_iff]
  refine ⟨fun _ => rfl, fun e200 => ?_⟩
  rw [ltI_false] at e200
  have hn200 : n ≤ 200 := by unfold lenI at e200; omega
  clear e200
  refine of_ok hx hw fun m2 k2 => ⟨boolsOf x, boolsOf_length x, rfl, ?_⟩
  rw [← zeros64, mBind_iff]
  generalize hm3 : newO m2 _ = m3
  have k23 : Keep m2 m3 := hm3 ▸ (Keep.refl k2.wf).newO
  have n3 : m3.nx = m2.nx + 1 := by rw [← hm3]; rfl
  have r3 : Row m3 m2.nx (boolsOf 0) 37 false := hm3 ▸ Row.newO
  have hfl2 := k2.wf.1
  refine okL_bools ⟨r3.okW (by have := k23.fl; omega) (by rw [boolsOf_length]; omega), ?_⟩
  rw [mBind_iff]
  generalize hm4 : wr m3 m2.nx 0 _ = m4
  have k24 : Keep m2 m4 := hm4 ▸ k23.wr (Nat.le_refl _)
  have n4 : m4.nx = m2.nx + 1 := by rw [← hm4, ← n3]; simp
  have r4 : Row m4 m2.nx (boolsOf x) 37 false := by
    have := r3.wr (o := 0) (vs := boolsOf x) (by rw [boolsOf_length, boolsOf_length]; omega)
    rw [over64, hm4] at this; exact this
  have k4 := k2.trans k24
  refine ⟨boolsOf x, rows64 r4, refList_ok hx k4.wf fun m5 aL nL cL k5 hL => ⟨_, _, _, rfl, ?_⟩⟩
  have k5m := k4.trans k5
  have r5 : Row m5 m2.nx (boolsOf x) 37 false := k5.row k4.wf r4
  have hnL : nL = pop 64 x := by have := hL.1; rw [List.length_map, elemsN_length] at this; omega
  have hnL64 : nL ≤ 64 := by have := pop_le 64 x; omega
  rw [mBind_iff]
  generalize hm6 : newO m5 _ = m6
  have k56 : Keep m5 m6 := hm6 ▸ (Keep.refl k5m.wf).newO
  have n6 : m6.nx = m5.nx + 1 := by rw [← hm6]; rfl
  have r6o : Row m6 m5.nx (boolsOf 0) 37 false := hm6 ▸ Row.newO
  have n25 : m2.nx < m5.nx := by have := k5.nx; omega
  have hfl5 := k5m.wf.1
  have eB : ∀ j : Nat, 0 + Int.toNat (j : Int) * 1 = j := fun j => by omega
  -- the list of numbers
  refine ⟨fun i7 m7 w => ∃ k : Nat, k ≤ n ∧ i7 = (k : Int) ∧ w = n - k ∧ Keep m5 m7 ∧ m5.nx < m7.nx ∧ Row m7 m5.nx (boolsOf (ofN (l.take k))) 37 false, ⟨n, 0, Nat.zero_le _, rfl, rfl, k56, by omega, r6o⟩, ?_⟩
  rintro i7 m7 w ⟨k, hk, rfl, rfl, k7, n7, r7⟩
  have k7m := k5m.trans k7
  rw [splitB_iff]
  refine ⟨fun e => ?_, fun e => ?_⟩
  · rw [ltI_true] at e
    have hkn : k < n := by unfold lenI at e; omega
    obtain ⟨v, hv⟩ : ∃ v, l[k]? = some v := ⟨_, List.getElem?_eq_getElem (by omega)⟩
    obtain ⟨b, o, rfl, h0⟩ := (slis_keep hl hw k7m).2 k (.int .i64 v) (by rw [List.getElem?_map, hv]; rfl)
    have htk : l.take (k + 1) = l.take k ++ [v] := by rw [List.take_add_one, hv]; rfl
    have hk0 : 0 ≤ (k : Int) ∧ (k : Int) < ((n : Nat) : Int) := ⟨by omega, by omega⟩
    refine joinK_of (fun J => ∀ b : Bool, (b = true ↔ 0 ≤ v ∧ v < 64) → J b m7) (fun b hb => ?_) (fun J hJ => ?_)
    · rw [splitB_iff]
      refine ⟨fun hb1 => ⟨hk0, ?_⟩, fun hb1 => ⟨n - (k + 1), less_w hkn, k + 1, hkn, inc64 (by omega), rfl, k7, n7, ?_⟩⟩
      · obtain ⟨v0, v1⟩ := hb.1 hb1
        rw [vPtr_some]
        obtain ⟨u, rfl⟩ := Int.eq_ofNat_of_zero_le v0
        refine ⟨u, by rw [Int.toNat_natCast, Nat.mul_one]; exact h0, ⟨v0, v1⟩, ?_⟩
        rw [eB]
        refine ⟨r7.okW (by have := k7.fl; omega) (by rw [boolsOf_length]; omega), ?_⟩
        rw [mBind_iff]
        refine ⟨n - (k + 1), less_w hkn, k + 1, hkn, inc64 (by omega), rfl, k7.wr (Nat.le_refl _), by simpa using n7, ?_⟩
        have := r7.wr1 (o := u) (v := .bool true) (by rw [boolsOf_length]; omega)
        rw [set64 (y := ofN (l.take (k + 1))) (fun j hj => by
          rw [htk, ofN_testBit hj]
          by_cases e : j = u
          · rw [if_pos (by omega), if_pos e]
          · rw [if_neg (by omega), if_neg e])] at this
        exact this
      · rw [htk, ofN_out fun q => by rw [hb.2 q] at hb1; cases hb1]; exact r7
    · refine ⟨hk0, ?_⟩
      rw [vPtr_some]
      refine ⟨v, by rw [Int.toNat_natCast, Nat.mul_one]; exact h0, ?_⟩
      rw [splitB_iff]
      refine ⟨fun hv0 => ⟨hk0, ?_⟩, fun hv0 => hJ false ⟨fun q => (by cases q), fun q => by rw [leI_false] at hv0; omega⟩⟩
      rw [vPtr_some]
      refine ⟨v, by rw [Int.toNat_natCast, Nat.mul_one]; exact h0, hJ _ ?_⟩
      rw [ltI_true]
      rw [leI_true] at hv0
      exact ⟨fun q => ⟨hv0, q⟩, fun q => q.2⟩
  rw [ltI_false] at e
  have hkn : k = n := by unfold lenI at e; omega
  subst hkn
  rw [List.take_of_length_le (by omega)] at r7
  clear e hk
  have r7s : Row m7 m2.nx (boolsOf x) 37 false := k7.row k5m.wf r5
  have hL7 := slis_keep hL k5m.wf k7
  have hlist : (elemsN 64 x).length = nL := by rw [elemsN_length]; exact hnL.symm
  -- the elements, from the last on
  refine ⟨fun rank first there i10 m10 w => ∃ p : Nat, p ≤ nL ∧ i10 = (p : Int) - 1 ∧ w = p ∧ m10 = m7 ∧ Reckoned i (elemsN 64 x) p rank first there,
    ⟨nL, nL, Nat.le_refl _, dec_len (by omega), rfl, rfl, by unfold Reckoned; rw [List.drop_eq_nil_of_le (by omega)]; exact ⟨rfl, rfl⟩⟩, ?_⟩
  rintro rank first there i10 m10 p ⟨_, hp, rfl, rfl, rfl, hR⟩
  rw [splitB_iff]
  refine ⟨fun e => ?_, fun e => ?_⟩
  · rw [leI_true] at e
    obtain ⟨q, rfl⟩ : ∃ q, p = q + 1 := ⟨p - 1, by omega⟩
    have ej : ((q + 1 : Nat) : Int) - 1 = (q : Int) := by omega
    rw [ej]
    obtain ⟨v, hv⟩ : ∃ v, (elemsN 64 x)[q]? = some v := ⟨_, List.getElem?_eq_getElem (by omega)⟩
    obtain ⟨b, o, rfl, h0⟩ := hL7.2 q (.int .i64 (v : Int)) (by rw [List.getElem?_map, hv]; rfl)
    obtain ⟨hs1, hs2⟩ := reckon_step (i := i) hv hR
    have hq0 : 0 ≤ (q : Int) ∧ (q : Int) < ((nL : Nat) : Int) := ⟨by omega, by omega⟩
    have hv64 : v < 64 := (mem_elems.1 (List.mem_of_getElem? hv)).1
    refine joinK_of (fun J => ∀ rk : Int, (((v : Int) < i ∧ rk = rank + 1) ∨ (i ≤ (v : Int) ∧ rk = rank)) → J rk m10) (fun rk hrk => ?_) (fun J hJ => ?_)
    · refine ⟨hq0, ?_⟩
      rw [vPtr_some]
      refine ⟨v, by rw [Int.toNat_natCast, Nat.mul_one]; exact h0, ?_⟩
      rw [dec_int (show q ≤ 1000 by omega)]
      rw [splitB_iff]
      refine ⟨fun e2 => ⟨hq0, ?_⟩, fun e2 => ⟨q, by omega, q, by omega, rfl, rfl, rfl, ?_⟩⟩
      · rw [leI_true] at e2
        rw [vPtr_some]
        refine ⟨v, by rw [Int.toNat_natCast, Nat.mul_one]; exact h0, q, by omega, q, by omega, rfl, rfl, rfl, ?_⟩
        rcases hrk with ⟨h1, _⟩ | ⟨_, rfl⟩
        · omega
        · exact hs2 e2
      · rw [leI_false] at e2
        rcases hrk with ⟨_, rfl⟩ | ⟨h1, _⟩
        · exact hs1 e2
        · omega
    · refine ⟨hq0, ?_⟩
      rw [vPtr_some]
      refine ⟨v, by rw [Int.toNat_natCast, Nat.mul_one]; exact h0, ?_⟩
      rw [splitB_iff]
      refine ⟨fun e2 => hJ _ (.inl ⟨ltI_true.1 e2, ?_⟩), fun e2 => hJ _ (.inr ⟨ltI_false.1 e2, rfl⟩)⟩
      have hr0 : rank ≤ 64 ∧ 0 ≤ rank := by
        have h1 := hR.1
        have h2 := List.countP_le_length (p := fun v : Nat => decide ((v : Int) < i)) (l := (elemsN 64 x).drop (q + 1))
        rw [List.length_drop] at h2
        omega
      exact addI_64 (by omega) (by omega)
  rw [leI_false] at e
  have hp0 : p = 0 := by omega
  subst hp0
  clear e hp
  unfold Reckoned at hR
  rw [List.drop_zero] at hR
  obtain ⟨hrank, hfirst⟩ := hR
  have hrank' : rank = ((pop (clampW i) x : Nat) : Int) := by
    rw [hrank]
    have := count_elems (x := x) (c := clampW i) (n := 64)
    rw [Nat.min_eq_right (clampW_le i)] at this
    rw [← this]
    congr 1
    refine List.countP_congr fun v hv => ?_
    have := (mem_elems.1 hv).1
    simp only [decide_eq_true_iff]
    exact lt_clamp this
  clear hrank
  have hf1 : first = (fromL i (elemsN 64 x)).1 := by rw [← hfirst]
  have hf2 : there = (fromL i (elemsN 64 x)).2 := by rw [← hfirst]
  clear hfirst
  have ht7 := keep_tabs k7m hw ht
  -- round
  refine joinK_of (fun J => J (roundL i (elemsN 64 x)).1 (roundL i (elemsN 64 x)).2 m10) ?_ (fun J hJ => ?_)
  · -- nth
    refine joinK_of (fun J => J 0 (nthL i (elemsN 64 x)).2 m10) ?_ (fun J hJ => ?_)
    · refine joinK_of (fun J => J (nthL i (elemsN 64 x)).1 m10) ?_ (fun J hJ => ?_)
      · rw [mBind_iff]
        generalize hm15 : bump m10 6 = m15
        have k15 : Keep m10 m15 := hm15 ▸ (Keep.refl k7m.wf).bump
        have n15 : m15.nx = m10.nx + 6 := by rw [← hm15]; rfl
        have r15 : Row m15 m2.nx (boolsOf x) 37 false := k15.row k7m.wf r7s
        have r15o : Row m15 m5.nx (boolsOf (ofN l)) 37 false := k15.row k7m.wf r7
        refine ⟨boolsOf x, rows64 r15, boolsOf x, rows64 r15, okL_bools ?_⟩
        generalize hA : addO (addO m15 (m10.nx + 2) (row (boolsOf 0) 37 false)) (m10.nx + 3) (row (boolsOf 0) 37 false) = mA
        have kA : Keep m10 mA := hA ▸ (k15.addO (by omega) (by omega)).addO (by omega) (by simp; omega)
        have nA : mA.nx = m15.nx := by rw [← hA]; simp
        have flA : mA.fl = m15.fl := by rw [← hA]; simp
        have rA2 : Row mA (m10.nx + 2) (boolsOf 0) 37 false := Row.of_row (by rw [← hA, addO_get, if_neg (by omega), addO_get, if_pos rfl])
        have rA3 : Row mA (m10.nx + 3) (boolsOf 0) 37 false := Row.of_row (by rw [← hA, addO_get, if_pos rfl])
        have rF2 : Row (setFl mA m10.nx) (m10.nx + 2) (boolsOf 0) 37 false := rA2
        refine ⟨rF2.okW (by show m10.nx ≤ m10.nx + 2; omega) (by rw [boolsOf_length]; omega), ?_⟩
        rw [mBind_iff]
        generalize hm16 : wr (setFl mA m10.nx) (m10.nx + 2) 0 _ = m16
        have r16 : Row m16 (m10.nx + 2) (boolsOf x) 37 false := by
          have := rF2.wr (o := 0) (vs := boolsOf x) (by rw [boolsOf_length, boolsOf_length]; omega)
          rw [over64, hm16] at this; exact this
        have g16 : ∀ b, b ≠ m10.nx + 2 → m16.hp.get b = mA.hp.get b := fun b hb => by rw [← hm16, wr_get hb]; rfl
        have n16 : m16.nx = mA.nx := by rw [← hm16]; simp
        have hw10 := k7m.wf
        have fl15 : m15.fl = m10.fl := k15.fl
        generalize hm16' : setFl m16 m15.fl = mB
        have kB : Keep m10 mB := by
          subst hm16'
          refine ⟨⟨?_, fun b hb => ?_⟩, ?_, fl15, fun b hb => ?_⟩
          · show m15.fl ≤ m16.nx
            have := hw10.1; omega
          · have hb' : m16.nx ≤ b := hb
            show m16.hp.get b = none
            rw [g16 b (by omega)]; exact kA.wf.2 b (by omega)
          · show m10.nx ≤ m16.nx
            omega
          · show m16.hp.get b = m10.hp.get b
            rw [g16 b (by omega)]; exact kA.get b hb
        have rB2 : Row mB (m10.nx + 2) (boolsOf x) 37 false := hm16' ▸ r16
        have rB3 : Row mB (m10.nx + 3) (boolsOf 0) 37 false := hm16' ▸ (rA3.congr (g16 _ (by omega)))
        have flB : mB.fl ≤ m10.nx := by rw [kB.fl]; exact hw10.1
        refine okL_bools ⟨rB3.okW (by omega) (by rw [boolsOf_length]; omega), ?_⟩
        rw [mBind_iff]
        generalize hm17 : wr mB (m10.nx + 3) 0 _ = m17
        have k17 : Keep m10 m17 := hm17 ▸ kB.wr (by omega)
        have r17 : Row m17 (m10.nx + 3) (boolsOf x) 37 false := by
          have := rB3.wr (o := 0) (vs := boolsOf x) (by rw [boolsOf_length, boolsOf_length]; omega)
          rw [over64, hm17] at this; exact this
        have r17' : Row m17 (m10.nx + 2) (boolsOf x) 37 false := by rw [← hm17]; exact rB2.apart (by omega)
        rw [mBind_iff]
        clear r16 rF2 rA2 rA3 rB2 rB3 r15 r15o
        have hwith : (x ||| bitW i) < 18446744073709551616 := Nat.or_lt_two_pow (n := 64) hx (bitW_lt i)
        have hwout : (x &&& (18446744073709551615 - bitW i)) < 18446744073709551616 := Nat.lt_of_le_of_lt Nat.and_le_left hx
        refine joinK_of (fun J => ∀ m19, Keep m10 m19 → Row m19 (m10.nx + 2) (boolsOf (x ||| bitW i)) 37 false → Row m19 (m10.nx + 3) (boolsOf (x &&& (18446744073709551615 - bitW i))) 37 false → J m19) (fun m19 k19 rW rO => ?_) (fun J hJ => ?_)
        · have ht19 := keep_tabs (k7m.trans k19) hw ht
          refine first_ok' hx ht19 ⟨_, _, rfl, around_ok' hx ht19 ⟨_, _, rfl, nth_ok' hx k19.wf ht19 fun m22 k22 => ⟨_, _, rfl, ?_⟩⟩⟩
          rw [mBind_iff]
          generalize hm23 : bump m22 96 = m23
          have k23' : Keep m19 m23 := hm23 ▸ k22.bump
          refine list_ok' hx k23'.wf (keep_tabs k23' k19.wf ht19) fun m24 aM nM cM k24' hM => ⟨_, _, _, rfl, ?_⟩
          have k24m := k23'.trans k24'
          refine ints_ok k24m.wf hM (slis_keep hL7 k7m.wf (k19.trans k24m)) (by have := hM.1; rw [List.length_map, hlist] at this; omega) fun m25 k25 => ⟨_, rfl, ?_⟩
          rw [splitB_true]
          have k25m := k24m.trans k25
          refine len_ok hx ⟨_, rfl, ?_⟩
          have eL : eqI ((pop 64 x : Nat) : Int) (lenI nL) = true := by rw [eqI_true]; unfold lenI; omega
          rw [eL, splitB_true]
          have un : ∀ mm : Mem, setFl (setFl mm mm.nx) mm.fl = mm := fun _ => rfl
          rw [un m25]
          have ht25 := keep_tabs k25m k19.wf ht19
          refine string_ok hx (wf_setFl k25m.wf (Nat.le_refl _)) ht25 fun m27 k27 => ⟨_, rfl, boolsOf x, rows64 (k25m.row k19.wf (k19.row k7m.wf r7s)), ?_⟩
          have k27u := keep_unset k25m.wf k27
          refine settext_ok hx k27u.wf fun m28 k28 => ⟨_, rfl, ?_⟩
          rw [eqS_same, splitB_true]
          have k28m := k25m.trans (k27u.trans k28)
          have k28a := (k7m.trans k19).trans k28m
          have hl28 : SlIs m28 a _ (l.map (Value.int .i64)) := slis_keep hl hw k28a
          refine maskOf_ok (m := setFl m28 m28.nx) (l := l) hl28 (by omega) ⟨_, rfl, boolsOf (ofN l), rows64 (k28m.row k19.wf (k19.row k7m.wf r7)), ?_⟩
          rw [un m28]
          refine word_ok (ofN_lt l) k28m.wf fun m30 k30 => ⟨_, rfl, ?_⟩
          rw [eqI_same, splitB_true]
          have k30m := k28m.trans k30
          refine has_ok hx ⟨_, rfl, has_cases (k30m.row k19.wf (k19.row k7m.wf r7s)) (rank_ok hx ⟨_, rfl, ?_⟩)⟩
          rw [hrank', eqI_same, splitB_true, hf1, eqI_same, splitB_true, hf2, beq_self', splitB_true, eqI_same, splitB_true, beq_self', splitB_true, eqI_same, splitB_true, beq_self', splitB_true]
          refine with_ok hx ⟨_, rfl, boolsOf (x ||| bitW i), rows64 (k30m.row k19.wf rW), ?_⟩
          rw [un m30]
          refine word_ok hwith k30m.wf fun m34 k34 => ⟨_, rfl, ?_⟩
          rw [eqI_same, splitB_true]
          have k34m := k30m.trans k34
          refine without_ok hx ⟨_, rfl, boolsOf (x &&& (18446744073709551615 - bitW i)), rows64 (k34m.row k19.wf rO), ?_⟩
          rw [un m34]
          refine word_ok hwout k34m.wf fun m36 k36 => ⟨_, rfl, ?_⟩
          rw [eqI_same]
        · refine joinK_of (fun J => ∀ b : Bool, (b = true ↔ 0 ≤ i ∧ i < 64) → J b m17) (fun b hb => ?_) (fun J hJ => ?_)
          · rw [splitB_iff]
            refine ⟨fun hb1 => ?_, fun hb1 => ?_⟩
            · obtain ⟨v0, v1⟩ := hb.1 hb1
              obtain ⟨u, rfl⟩ := Int.eq_ofNat_of_zero_le v0
              have fl17 : m17.fl ≤ m10.nx := by rw [k17.fl]; exact hw10.1
              rw [eB]
              refine ⟨⟨v0, v1⟩, r17'.okW (by omega) (by rw [boolsOf_length]; omega), ?_⟩
              rw [mBind_iff]
              generalize hm48 : wr m17 (m10.nx + 2) u _ = m48
              have k48 : Keep m10 m48 := hm48 ▸ k17.wr (by omega)
              have w2 : Row m48 (m10.nx + 2) (boolsOf (x ||| bitW (u : Int))) 37 false := by
                have := r17'.wr1 (o := u) (v := .bool true) (by rw [boolsOf_length]; omega)
                rw [set64 (or_in (by omega)), hm48] at this
                exact this
              have w3 : Row m48 (m10.nx + 3) (boolsOf x) 37 false := by rw [← hm48]; exact r17.apart (by omega)
              have fl48 : m48.fl ≤ m10.nx := by rw [k48.fl]; exact hw10.1
              refine ⟨⟨v0, v1⟩, w3.okW (by omega) (by rw [boolsOf_length]; omega), ?_⟩
              rw [mBind_iff]
              refine hJ _ (k48.wr (by omega)) (w2.apart (by omega)) ?_
              have := w3.wr1 (o := u) (v := .bool false) (by rw [boolsOf_length]; omega)
              rw [set64 (andnot_in (by omega))] at this
              exact this
            · have hno : ¬ (0 ≤ i ∧ i < 64) := fun h => by rw [hb.2 h] at hb1; cases hb1
              refine hJ _ k17 ?_ ?_
              · rw [bitW_out hno, Nat.or_zero]; exact r17'
              · rw [andnot_out hx hno]; exact r17
          · rw [splitB_iff]
            refine ⟨fun hv0 => hJ _ ?_, fun hv0 => hJ _ ?_⟩
            · rw [leI_true] at hv0; rw [ltI_true]; exact ⟨fun h => ⟨hv0, h⟩, fun h => h.2⟩
            · rw [leI_false] at hv0; exact ⟨fun h => (by cases h), fun h => by omega⟩
      · rw [splitB_iff]
        refine ⟨fun e => ?_, fun e => ?_⟩
        · unfold nthL at hJ e
          split at e
          · rename_i hi
            rw [if_pos hi] at hJ
            split at e
            · rename_i v hv
              rw [hv] at hJ
              obtain ⟨b, o, rfl, h0⟩ := hL7.2 i.toNat (.int .i64 (v : Int)) (by rw [List.getElem?_map, hv]; rfl)
              have := (List.getElem?_eq_some_iff.1 hv).1
              refine ⟨⟨hi, by omega⟩, ?_⟩
              rw [vPtr_some]
              exact ⟨v, by rw [Nat.mul_one]; exact h0, hJ⟩
            · cases e
          · cases e
        · have : nthL i (elemsN 64 x) = (0, false) := by
            unfold nthL at e ⊢
            split
            · rename_i hi
              rw [if_pos hi] at e
              split
              · rename_i v hv
                rw [hv] at e; cases e
              · rfl
            · rfl
          rw [this] at hJ
          exact hJ
    · rw [splitB_iff]
      refine ⟨fun e => ?_, fun e => ?_⟩
      · rw [leI_true] at e
        have : (nthL i (elemsN 64 x)).2 = ltI i (lenI nL) := by
          unfold nthL
          rw [if_pos e]
          by_cases h : i.toNat < (elemsN 64 x).length
          · rw [List.getElem?_eq_getElem h]
            exact (ltI_true.2 (by unfold lenI; omega)).symm
          · rw [List.getElem?_eq_none (by omega)]
            exact (ltI_false.2 (by unfold lenI; omega)).symm
        rw [this] at hJ; exact hJ
      · rw [leI_false] at e
        have : (nthL i (elemsN 64 x)).2 = false := by
          unfold nthL
          rw [if_neg (by omega)]
        rw [this] at hJ; exact hJ
  · refine joinK_of (fun J => J (!there && decide (0 < nL)) m10) ?_ (fun J hJ => ?_)
    · rw [splitB_iff]
      refine ⟨fun e => ?_, fun e => ?_⟩
      · rw [Bool.and_eq_true, Bool.not_eq_true', decide_eq_true_iff] at e
        obtain ⟨e1, e2⟩ := e
        obtain ⟨v, hv⟩ : ∃ v, (elemsN 64 x)[0]? = some v := ⟨_, List.getElem?_eq_getElem (by omega)⟩
        obtain ⟨b, o, rfl, h0⟩ := hL7.2 0 (.int .i64 (v : Int)) (by rw [List.getElem?_map, hv]; rfl)
        refine ⟨⟨by omega, by omega⟩, ?_⟩
        rw [vPtr_some]
        refine ⟨v, h0, ?_⟩
        unfold roundL at hJ
        rw [← hf2, e1, if_neg (by decide), List.head?_eq_getElem?, hv] at hJ
        exact hJ
      · unfold roundL at hJ
        cases hth : there with
        | true =>
          rw [hth] at hf2
          rw [← hf2, if_pos rfl, ← hf1, ← hf2] at hJ; exact hJ
        | false =>
          rw [hth] at hf2 e
          have h0 : elemsN 64 x = [] := by
            apply List.eq_nil_of_length_eq_zero
            have : ¬ 0 < nL := by simpa using e
            omega
          have hf0 : first = 0 := by rw [hf1, fromL_off hf2.symm]
          rw [← hf2, if_neg (by decide), h0] at hJ
          rw [hf0]; exact hJ
    · have e0 : ltI 0 (lenI nL) = decide (0 < nL) := by
        by_cases h : 0 < nL
        · rw [decide_eq_true h]; exact ltI_true.2 (by unfold lenI; omega)
        · rw [decide_eq_false h]; exact ltI_false.2 (by unfold lenI; omega)
      cases hth : there with
      | true => rw [hth] at hJ; exact hJ
      | false =>
        rw [hth] at hJ
        rw [show (!false) = true from rfl, splitB_true, e0]
        exact hJ

theorem u64_nat {n : Int} (h : (Lit.int .u64 n).wf = true) : ∃ x : Nat, n = (x : Int) ∧ x < 18446744073709551616 := by
  have : (0 : Int) ≤ n ∧ n ≤ 18446744073709551615 := by
    simpa [Lit.wf, IntKind.min, IntKind.max, IntKind.bits, IntKind.signed] using h
  obtain ⟨x, rfl⟩ := Int.eq_ofNat_of_zero_le this.1
  exact ⟨x, rfl, by omega⟩

end Go.Proofs.YtlenjadchmlliaaDoor.vc

namespace Go.Proofs.YtlenjadchmlliaaDoor.maskSays
open Go Go.ChangeShapes Go.WideShapes Go.ChangeAt Go.RowKit Go.AX
set_option linter.unusedVariables false

theorem walk {H : Type} {enc : TypeId × Value → H} (W : World) (args : Array Value) (ds : List (DataW H)) (p : List MemPlace) (hL : laidMetH Tryd.prog Rows.maskSaysRow.laid W) (hA : DataW.TrodAll enc Tryd.prog W 0 (fun _ => true) true [25, 3, 22] args.toList ds p)
    (hval : ∀ (j : Nat) t v, ([25, 3, 22] : List TypeId)[j]? = some t → args.toList[j]? = some v → Value.okWide Tryd.prog W .any 0 t v) :
    Calls Tryd.prog 6 args W (fun e w' => e = .returned (.bool true) ∧ Below W.heap.size W w') ∧ ∃ d1 d2 d3, ds = [d1, d2, d3] := by
  obtain ⟨l⟩ := args
  simp only at hA hval
  obtain ⟨v1, vs1, d1, ds1, p1, q1, rfl, rfl, rfl, h1, hA⟩ := trodAll_cons hA
  obtain ⟨v2, vs2, d2, ds2, p2, q2, rfl, rfl, rfl, h2, hA⟩ := trodAll_cons hA
  obtain ⟨v3, vs3, d3, ds3, p3, q3, rfl, rfl, rfl, h3, hA⟩ := trodAll_cons hA
  obtain ⟨rfl, rfl, rfl⟩ := trodAll_nil hA
  refine ⟨?_, d1, d2, d3, rfl⟩
  have htab := vc.tabs_at rfl hL
  obtain ⟨n0, rfl, hr0⟩ := open_int Tryd.underlying25 (hval 0 _ _ rfl rfl) h1
  obtain ⟨n1, rfl, _⟩ := open_int Tryd.underlying3 (hval 1 _ _ rfl rfl) h2
  obtain ⟨a, n, c, is, rfl, _, hg, he, hok⟩ := ints_arg Tryd.underlying22 Tryd.underlying3 (by kernel_rfl) (hval 2 _ _ rfl rfl) h3
  obtain ⟨x, rfl, hx⟩ := vc.u64_nat hr0.2.2
  refine open_true (ann := vc.A6) vc.cxOk vc.ovOk vc.hmix W _ (by kernel_rfl : vc.cx.fn.get 6 = some Tryd.f6) ?_ ?_
  · simp only [List.all_cons, hg]; rfl
  · exact Eq.mp (vc.F6_eq (x : Int) n1 a n c _ _) (vc.says_law hx (mW_wf _ _) htab he)

set_option maxRecDepth 100000 in
theorem lifted (os : Os) (started : os.Started) (H : Type) (enc : TypeId × Value → H) :
    ReturnsInHanded {} Tryd.checked os 6 .any (fun w args => (Rows.maskSaysSpec.pre enc Tryd.prog Tryd.f6 [] false w args ∧ laidMetH Tryd.prog Rows.maskSaysRow.laid w) ∧ sizedMet enc Tryd.prog Tryd.f6 (OpenSpec.ofChange Rows.maskSaysSpec) false w args)
      (Rows.maskSaysSpec.post enc Tryd.prog Tryd.f6 false true false false) := by
  refine returnsInHanded_of_change_and (C := Tryd.checked) (X := fun w _ => laidMetH Tryd.prog Rows.maskSaysRow.laid w) (fun _ _ _ hh h => h.of_heap hh) vc.own started (by kernel_rfl) Tryd.func6
    (ChangeSpec.witness_shaped (enc := enc) (C := Tryd.checked) (os := os) (X := fun w _ => laidMetH Tryd.prog Rows.maskSaysRow.laid w) false (World.doorLaid Tryd.prog 24 os) #[.int .u64 0, .int .i64 0, .slice none 0 0] 8 rfl (World.shaped_of_RefB (by kernel_rfl) (by kernel_rfl)) (by kernel_rfl) (by kernel_rfl) (by kernel_rfl) (vc.door_met os _)) ?_
  intro W base args ds gs before hval0 hW hcnd _ hL _
  have hval : ∀ (j : Nat) t v, Tryd.f6.params[j]? = some t → args[j]? = some v → Value.okWide Tryd.prog W .any base t v := hval0
  have hW' := hW
  obtain ⟨p, q, hA0, hV, rfl, hfz, hnd⟩ := hW
  have hA : DataW.TrodAll enc Tryd.prog W 0 (fun _ => true) true Tryd.f6.params.toList args.toList ds p := hA0
  rw [Tryd.params6] at hA hval
  obtain ⟨rfl, rfl⟩ := trodVars_none hV
  clear hA0 hval0
  simp only [List.append_nil] at hW'
  have hval' : ∀ (j : Nat) t v, ([25, 3, 22] : List TypeId)[j]? = some t → args.toList[j]? = some v → Value.okWide Tryd.prog W .any base t v := fun j t v h1 h2 => hval j t v (by simpa using h1) (by simpa using h2)
  obtain ⟨hc, d1, d2, d3, rfl⟩ := walk (enc := enc) W args ds p hL hA hval'
  refine hc.mono fun e W' ⟨he, hg⟩ => ?_
  subst he
  exact ⟨_, rfl, post_law Tryd.underlying4 (by kernel_rfl) rfl rfl (by kernel_rfl) (by rw [Tryd.params6]; exact hW') (by rw [Tryd.params6]; exact hA) hg⟩

theorem over : Rows.MaskSaysSaid :=
  OpenClaim.holds_of_wide 6 Tryd.f6 rfl rfl rfl rfl rfl rfl rfl ⟨rfl, rfl, rfl, rfl, rfl⟩ rfl rfl rfl rfl rfl (by kernel_rfl) Tryd.func6 (by kernel_rfl)
    (of_decide_eq_true (by kernel_rfl)) (by unfold Func.isWrapper; first | (rw [if_pos (by decide +kernel)]; kernel_rfl) | (rw [if_neg (by decide +kernel)]; exact ⟨rfl, rfl⟩))
    (fun os started H enc _ => lifted os started H enc)

theorem plain : (Tryd.f6.params.toList.all fun t => !Tryd.prog.wantsStandIn t) = true := by kernel_rfl

theorem proved : Rows.MaskSaysCardSaid :=
  Claim7.holds_tied_plain_at .later [] [.data, .data, .data] true (true, "03d43ed8b915a9594593e4a6da3b2d9b0d6915be055e58c22c4e7135fb6a2efe") false
    over (fun _ h => by cases h) (by kernel_rfl) (fun _ h => by cases h) maskSays_row_tie rfl ⟨rfl, rfl⟩ (by kernel_rfl) rfl
    (fun f fn hf hfn => by
      obtain rfl : f = 6 := Option.some.inj ((show Tryd.prog.funcNamed "beadle/beadlelaw3.MaskSays" = some 6 by kernel_rfl).symm.trans hf) |>.symm
      obtain rfl : fn = Tryd.f6 := (Option.some.inj (Tryd.func6.symm.trans hfn)).symm
      exact ⟨by kernel_rfl, fun j t ht => by
        have := List.all_eq_true.1 plain t (List.mem_of_getElem? (by simpa using ht))
        exact (show Tryd.prog.wantsStandIn t = false by simpa using this)⟩)
    (by kernel_rfl)
#print axioms proved
end Go.Proofs.YtlenjadchmlliaaDoor.maskSays
