/-
  The law NoteKnown.
-/
import Derived.Test.YtdeknemdeijljaaDoorRead
import Derived.Test.YtdeknemdeijljaaDoorSome
namespace Go.Proofs.YtdeknemdeijljaaDoor.vc
open Go Go.AX
set_option linter.unusedVariables false
set_option linter.unusedSimpArgs false
set_option maxRecDepth 100000

theorem eqE_raw2 (a b c d a' b' c' d' : Int) (m : Mem) : eqV cx m 40 23 (.agg #[.int .i64 a, .int .i64 b, .int .i64 c, .int .i64 d]) (.agg #[.int .i64 a', .int .i64 b', .int .i64 c', .int .i64 d']) = andO (some (decide (a = a'))) (andO (some (decide (b = b'))) (andO (some (decide (c = c'))) (andO (some (decide (d = d'))) (some true)))) := by
  kernel_rfl

theorem eqE2 (e f : E) (m : Mem) : eqV cx m 40 23 (.agg #[.int .i64 e.1, .int .i64 e.2.1, .int .i64 e.2.2.1, .int .i64 e.2.2.2]) (.agg #[.int .i64 f.1, .int .i64 f.2.1, .int .i64 f.2.2.1, .int .i64 f.2.2.2]) = some (decide (e = f)) := by
  obtain ⟨a, b, c, d⟩ := e
  obtain ⟨a', b', c', d'⟩ := f
  refine (eqE_raw2 ..).trans ?_
  simp only [Prod.mk.injEq]
  by_cases h1 : a = a' <;> by_cases h2 : b = b' <;> by_cases h3 : c = c' <;> by_cases h4 : d = d' <;> simp [andO, h1, h2, h3, h4]

/-- the block of a variable that is told at once -/
theorem var_ok {m : Mem} (hw : Wf m) (e : E) {G : Mem → Prop} (hG : ∀ m', Keep m m' → Row m' m.nx (encV e) 23 false → G m') :
    mBind (newO m (row [.int .i64 0, .int .i64 0, .int .i64 0, .int .i64 0] 23 false)) fun m9 => okW m9 m.nx 0 4 ∧ mBind (AX.wr m9 m.nx 0 [.int .i64 e.1, .int .i64 e.2.1, .int .i64 e.2.2.1, .int .i64 e.2.2.2]) G := by
  rw [mBind_iff]
  have r : Row (newO m (row [.int .i64 0, .int .i64 0, .int .i64 0, .int .i64 0] 23 false)) m.nx [.int .i64 0, .int .i64 0, .int .i64 0, .int .i64 0] 23 false := Row.newO
  refine ⟨r.okW (by have := hw.1; simpa using this) (by simp), ?_⟩
  rw [mBind_iff]
  exact hG _ ((Keep.refl hw).newO.wr (Nat.le_refl _)) (r.wr (o := 0) (vs := encV e) (by simp [encV]))

/-! ## Text and Parse at given Events and strings: reckoned -/

def decF : Nat → Nat → List UInt8
  | 0, _ => []
  | k + 1, n => if n < 10 then [UInt8.ofNat (48 + n)] else decF k (n / 10) ++ [UInt8.ofNat (48 + n % 10)]

theorem decF_eq : ∀ {k n : Nat}, n < 10 ^ (k + 1) → decF (k + 1) n = Lib.decDigits n
  | 0, n, h => by
    rw [Lib.decDigits, decF, if_pos (by omega), dif_pos (by omega)]
  | k + 1, n, h => by
    rw [Lib.decDigits, decF]
    by_cases h1 : n < 10
    · rw [if_pos h1, dif_pos h1]
    · rw [if_neg h1, dif_neg h1, decF_eq (k := k) (n := n / 10) (by rw [Nat.pow_succ] at h; omega)]

def textF (e : E) : List UInt8 := if okE e = true then Lib.join (decF 20 e.1.toNat :: trimW (word e.2.1.toNat) :: decF 20 e.2.2.1.toNat :: (if suf (word e.2.1.toNat) = true then [decF 20 e.2.2.2.toNat] else [])) [32] else []

theorem textF_eq {e : E} (hr : rangeE e) : textE e = textF e := by
  unfold textE textF
  by_cases h : okE e = true
  · rw [if_pos h, if_pos h]
    obtain ⟨h1, h2, h3, h4, h5⟩ := okE_iff.1 h
    obtain ⟨q1, q2, q3⟩ := hr
    have d : ∀ {x : Int}, 0 ≤ x → x ≤ 9223372036854775807 → Lib.itoa x = decF 20 x.toNat := fun h0 h1 => by
      rw [itoa_dec h0, decF_eq (k := 19) (by omega)]
    unfold partsE
    rw [d h3 q1, d h4 q2, d h5 q3]
  · rw [if_neg h, if_neg h]

theorem fields_range (f : List (List UInt8)) : rangeE (fieldsE f) := by
  refine ⟨(atoiV_bounds _).2, (atoiV_bounds _).2, ?_⟩
  show (if _ then _ else _) ≤ _
  split
  · exact (atoiV_bounds _).2
  · omega

def parseF (s : List UInt8) : Option E :=
  if (pieces 32 (s.count 32) s).length < 3 then none
  else if textF (fieldsE (pieces 32 (s.count 32) s)) = s then some (fieldsE (pieces 32 (s.count 32) s)) else none
theorem parseF_eq (s : List UInt8) : parseE s = parseF s := by
  unfold parseE parseF
  rw [textF_eq (fields_range _)]

def badL : List (List UInt8) := [[], [54, 32, 100, 111, 110, 101, 32, 49], [54, 32, 100, 111, 110, 101, 32, 49, 32, 49, 32, 49], [48, 54, 32, 100, 111, 110, 101, 32, 49, 32, 49], [54, 32, 119, 104, 97, 116, 32, 49], [54, 32, 119, 97, 107, 101, 32, 49, 32, 48], [54, 32, 32, 100, 111, 110, 101, 32, 49, 32, 49], [45, 49, 32, 119, 97, 107, 101, 32, 49], [54, 32, 119, 97, 107, 101, 32, 45, 49], [54, 32, 119, 97, 107, 101], [57, 57, 57, 57, 57, 57, 57, 57, 57, 57, 57, 57, 57, 57, 57, 57, 57, 57, 57, 57, 32, 119, 97, 107, 101, 32, 49], [32, 54, 32, 119, 97, 107, 101, 32, 49]]
theorem bad_fact : ∀ k : Fin 12, parseF (badL.getD k.val []) = none ∧ (badL.getD k.val []).length ≤ 1000000 ∧ badL[k.val]? = some (badL.getD k.val []) := by decide +kernel

instance (e : E) : Decidable (rangeE e) := by unfold rangeE; infer_instance

theorem text1 : textE (5, 9, 3, 0) = [53, 32, 119, 97, 107, 101, 32, 51] := by rw [textF_eq (by decide)]; decide +kernel
theorem text2 : textE (5, 8, 3, 2) = [53, 32, 103, 97, 116, 101, 32, 51, 32, 50] := by rw [textF_eq (by decide)]; decide +kernel
theorem text3 : textE (0, 11, 0, 0) = [] := by rw [textF_eq (by decide)]; decide +kernel
theorem text4 : textE (0, 0, 0, 0) = [] := by rw [textF_eq (by decide)]; decide +kernel
theorem text5 : textE (-1, 2, 0, 0) = [] := by rw [textF_eq (by decide)]; decide +kernel

/-! ## the Events put in -/

def evK (k : Nat) : List E := (List.range k).map fun j : Nat => ((j : Int), 5, 1 + (j : Int) % 2, 0)
theorem evK_len (k : Nat) : (evK k).length = k := by unfold evK; simp
theorem evK_succ (k : Nat) : evK (k + 1) = evK k ++ [((k : Int), 5, 1 + (k : Int) % 2, 0)] := by unfold evK; rw [List.range_succ, List.map_append]; rfl

theorem keep_last : (keepN 4096 (evK 4097)).filter (fun x => leI 4095 x.1) = [(4095, 5, 2, 0), (4096, 5, 1, 0)] := by
  have e : evK 4097 = evK 4095 ++ [(4095, 5, 2, 0), (4096, 5, 1, 0)] := by
    rw [evK_succ 4096, evK_succ 4095, List.append_assoc]
    rfl
  unfold keepN
  rw [evK_len, e, List.drop_append_of_le_length (by rw [evK_len]; omega), List.filter_append]
  have h1 : ((evK 4095).drop (4097 - 4096)).filter (fun x => leI 4095 x.1) = [] := by
    rw [List.filter_eq_nil_iff]
    intro x hx
    have hx := List.mem_of_mem_drop hx
    unfold evK at hx
    obtain ⟨j, hj, rfl⟩ := List.mem_map.1 hx
    have := List.mem_range.1 hj
    rw [leI_dec]
    simp only [decide_eq_true_eq]
    omega
  rw [h1, List.nil_append]
  rw [List.filter_cons_of_pos (by rw [leI_dec]; decide), List.filter_cons_of_pos (by rw [leI_dec]; decide)]
  rfl

theorem EvsIs.row {m : Mem} {b : Nat} {l : List E} {e : TypeId} {y : Bool} (h : Row m b (l.flatMap encV) e y) : EvsIs m (some ⟨b, 0, none⟩) l.length l :=
  ⟨rfl, fun j v hv => ⟨b, 0, rfl, by rw [h.rd, Nat.zero_add, ← hv]⟩⟩

theorem split_yes {t e : Prop} {b : Bool} (hb : b = true) (h : t) : splitB b t e := by rw [hb, splitB_true]; exact h
theorem eqI_yes {x y : Int} (h : x = y) : eqI x y = true := by rw [eqI_dec]; exact decide_eq_true h

theorem known_law {m : Mem} (hw : Wf m) (hp : PowT m) (he : ErrsT m) : F5 m fun r _ => r = .bool true := by
  unfold F5
  refine awake_ok ⟨true, rfl, ?_⟩
  rw [show (!true) = false from rfl, splitB_false, mBind_iff]
  generalize hm2 : newO m _ = m2
  have k2 : Keep m m2 := hm2 ▸ (Keep.refl hw).newO
  have r2 : Row m2 m.nx (badL.map strV) 9 false := by rw [← hm2]; exact Row.newO
  refine forN (n := 12) (by omega) (fun k m3 => Keep m2 m3) (Keep.refl k2.wf) ?_
  intro k m3 hk k23 I w hI
  have k3 := k2.trans k23
  refine split_lt (fun hlt => ?_) (fun hge => ?_)
  · obtain ⟨f1, f2, f3⟩ := bad_fact ⟨k, hlt⟩
    simp only at f1 f2 f3
    refine ⟨⟨by omega, by omega⟩, bs (badL.getD k []), ?_, ?_⟩
    · rw [(k23.row k2.wf r2).rd, Int.toNat_natCast, show 0 + k * 1 = k by omega, List.getElem?_map, f3]; rfl
    refine parse_ok k3.wf (hp.keep hw k3) (he.keep hw k3) f2 fun m4 k34 => ?_
    rw [parseF_eq, f1]
    have k4 := k3.trans k34
    refine ⟨_, _, _, _, _, rfl, ?_⟩
    refine var_ok k4.wf (0, 0, 0, 0) fun m6 k46 q => ?_
    rw [splitB_false]
    refine ⟨_, q.rd, _, q.rd, _, q.rd, _, q.rd, _, eqE2 (0, 0, 0, 0) (0, 0, 0, 0) _, ?_⟩
    rw [decide_eq_true rfl, show (!true) = false from rfl, splitB_false]
    exact hI _ hlt ((k23.trans k34).trans k46)
  -- two Events where there is room for one
  refine new_ok k3.wf fun m7 r k37 h1 h2 h3 N7 => ⟨_, rfl, ?_⟩
  have hr1 : r = 1 := by omega
  subst hr1
  rw [mBind_iff]
  generalize hm8 : newO m7 _ = m8
  have k78 : Keep m7 m8 := hm8 ▸ (Keep.refl k37.wf).newO
  have r8 : Row m8 m7.nx (([(1, 9, 1, 0), (2, 9, 2, 0)] : List E).flatMap encV) 23 false := by rw [← hm8]; exact Row.newO
  refine put_ok k3.wf (k37.trans k78) (N7.keep k37.wf k78) (EvsIs.row r8) (by simp) (by omega) (by omega) (by simp) (by simp) (by omega) fun m9 k39 N9 => ⟨rfl, ?_⟩
  have k9 := k3.trans k39
  have N9 : NoteIs m3.nx m9 m3.nx 1 [(2, 9, 2, 0)] 1 := N9
  -- 4097 Events where there is room for 4096
  refine new_ok k9.wf fun m10 r k910 h1 h2 h3 N10 => ⟨_, rfl, ?_⟩
  have hr1 : r = 4096 := by omega
  subst hr1
  refine forN (n := 4097) (by omega) (fun k m11 => Keep m9 m11 ∧ NoteIs m9.nx m11 m9.nx 4096 (keepN 4096 (evK k)) (k - 4096)) ⟨k910, by
    rw [Nat.zero_sub, show keepN 4096 (evK 0) = [] from by unfold keepN evK; simp]; exact N10⟩ ?_
  rintro k' m11 hk' ⟨k911, N11⟩ I' w' hI'
  refine split_ltI (fun hlt => ?_) (fun hge' => ?_)
  · have hlt : k' < 4097 := by omega
    refine ⟨by omega, ?_⟩
    rw [mBind_iff]
    have et : addI .i64 1 (Int.tmod (k' : Int) 2) = 1 + (k' : Int) % 2 := by
      rw [Int.tmod_eq_emod_of_nonneg (by omega), addI_64 (by omega) (by omega)]
    rw [et]
    clear et
    generalize hm12 : newO m11 _ = m12
    have k1112 : Keep m11 m12 := hm12 ▸ (Keep.refl k911.wf).newO
    have hE : EvsIs m12 (some ⟨m11.nx, 0, none⟩) 1 [((k' : Int), 5, 1 + (k' : Int) % 2, 0)] := EvsIs.one (e := 23) (y := false) (by rw [← hm12]; exact Row.newO)
    refine put_ok k9.wf (k911.trans k1112) (N11.keep k911.wf k1112) hE (by omega) (by omega) (by omega) (by rw [keepN_len]; omega) (by omega) (by omega) fun m13 k913 N13 => ⟨rfl, ?_⟩
    refine hI' _ hlt ⟨k913, ?_⟩
    have hl := lost_more (r := 4096) (L := evK k') (M := [((k' : Int), 5, 1 + (k' : Int) % 2, 0)])
    rw [keepN_more] at N13
    rw [evK_len] at hl
    rw [hl, ← evK_succ, evK_len] at N13
    exact N13
  have hk4 : k' = 4097 := by omega
  subst hk4
  have hlen : (keepN 4096 (evK 4097)).length = 4096 := by rw [keepN_len, evK_len]; rfl
  refine since_ok k911.wf N11 (by omega) fun m14 a52 n52 c52 k1114 E52 => ⟨_, _, _, rfl, ?_⟩
  rw [keep_last] at E52
  have k914 := k911.trans k1114
  have N14 := N9.keep k9.wf k914
  refine len_ok N14 ⟨_, rfl, split_yes (eqI_yes rfl) ?_⟩
  refine lost_ok N14 ⟨_, rfl, split_yes (eqI_yes rfl) ?_⟩
  refine all_ok k914.wf N14 (by simp) fun m17 a63 c63 k17 E63 => ⟨_, _, _, rfl, ?_⟩
  have k917 := k914.trans k17
  rw [mBind_iff]
  generalize hm18 : newO m17 _ = m18
  have k1718 : Keep m17 m18 := hm18 ▸ (Keep.refl k17.wf).newO
  have r18 : Row m18 m17.nx (([(2, 9, 2, 0)] : List E).flatMap encV) 23 false := by rw [← hm18]; exact Row.newO
  refine same_ok k1718.wf (E63.keep k17.wf k1718) (EvsIs.row r18) (by simp) fun m19 k19 => ⟨_, rfl, ?_⟩
  rw [splitB_true]
  have k919 := (k917.trans k1718).trans k19
  have N19 := N9.keep k9.wf k919
  refine of_ok k919.wf N19 (by simp) fun m20 a70 n70 c70 k20 E70 => ⟨_, _, _, rfl, ?_⟩
  have e70 : n70 = 0 := by
    rw [← E70.1]
    simp [eqI_dec]
  subst e70
  refine split_yes (eqI_yes rfl) ?_
  have k920 := k919.trans k20
  refine of_ok k920.wf (N9.keep k9.wf k920) (by simp) fun m21 a76 n76 c76 k21 E76 => ⟨_, _, _, rfl, ?_⟩
  have e76 : n76 = 1 := by
    rw [← E76.1]
    simp [eqI_dec]
  subst e76
  refine split_yes (eqI_yes rfl) ?_
  have k921 := k920.trans k21
  have k1121 := (((k1114.trans k17).trans k1718).trans k19).trans (k20.trans k21)
  have N21 := N11.keep k911.wf k1121
  refine len_ok N21 ⟨_, rfl, split_yes (eqI_yes (by rw [hlen]; rfl)) ?_⟩
  refine lost_ok N21 ⟨_, rfl, split_yes (eqI_yes rfl) ?_⟩
  rw [mBind_iff]
  generalize hm24 : newO m21 _ = m24
  have k2124 : Keep m21 m24 := hm24 ▸ (Keep.refl k921.wf).newO
  have r24 : Row m24 m21.nx (([(4095, 5, 2, 0), (4096, 5, 1, 0)] : List E).flatMap encV) 23 false := by rw [← hm24]; exact Row.newO
  have k1424 := (((k17.trans k1718).trans k19).trans (k20.trans k21)).trans k2124
  refine same_ok k2124.wf (E52.keep k914.wf k1424) (EvsIs.row r24) (by rw [← E52.1]; simp) fun m25 k25 => ⟨_, rfl, ?_⟩
  rw [splitB_true]
  have k925 := (k921.trans k2124).trans k25
  have k025 := k9.trans k925
  refine text_ok (e := (5, 9, 3, 0)) k025.wf (hp.keep hw k025) (by decide) fun m26 k26 => ⟨_, rfl, ?_⟩
  refine split_yes (eqS_iff.2 (by rw [text1])) ?_
  have k026 := k025.trans k26
  refine text_ok (e := (5, 8, 3, 2)) k026.wf (hp.keep hw k026) (by decide) fun m27 k27 => ⟨_, rfl, ?_⟩
  refine split_yes (eqS_iff.2 (by rw [text2])) ?_
  have k027 := k026.trans k27
  refine text_ok (e := (0, 11, 0, 0)) k027.wf (hp.keep hw k027) (by decide) fun m28 k28 => ⟨_, rfl, ?_⟩
  refine split_yes (eqS_iff.2 (by rw [text3])) ?_
  have k028 := k027.trans k28
  refine text_ok (e := (0, 0, 0, 0)) k028.wf (hp.keep hw k028) (by decide) fun m29 k29 => ⟨_, rfl, ?_⟩
  refine split_yes (eqS_iff.2 (by rw [text4])) ?_
  have k029 := k028.trans k29
  refine text_ok (e := (-1, 2, 0, 0)) k029.wf (hp.keep hw k029) (by decide) fun m30 k30 => ⟨_, rfl, ?_⟩
  rw [text5]
  exact congrArg Value.bool (eqS_iff.2 rfl)

theorem own : ownKnob Tryd.prog.godebug = none := by kernel_rfl

end Go.Proofs.YtdeknemdeijljaaDoor.vc

namespace Go.Proofs.YtdeknemdeijljaaDoor.noteKnown
open Go Go.ChangeShapes Go.WideShapes Go.ChangeAt Go.RowKit Go.AX
set_option linter.unusedVariables false

set_option maxRecDepth 100000 in
theorem walk {H : Type} {enc : TypeId × Value → H} (W : World) (args : Array Value) (ds : List (DataW H)) (p : List MemPlace) (hL : laidMetH Tryd.prog Rows.noteKnownRow.laid W) (hA : DataW.TrodAll enc Tryd.prog W 0 (fun _ => true) true [] args.toList ds p)
    (hval : ∀ (j : Nat) t v, ([] : List TypeId)[j]? = some t → args.toList[j]? = some v → Value.okWide Tryd.prog W .any 0 t v) :
    Calls Tryd.prog 5 args W (fun e w' => e = .returned (.bool true) ∧ Below W.heap.size W w') ∧ ds = [] := by
  obtain ⟨l⟩ := args
  simp only at hA hval
  obtain ⟨rfl, rfl, rfl⟩ := trodAll_nil hA
  refine ⟨?_, rfl⟩
  have htab := vc.powT_at rfl hL
  have herr := vc.errsT_at rfl hL
  refine open_true (ann := vc.A5) vc.cxOk vc.ovOk vc.hmix W _ (by kernel_rfl : vc.cx.fn.get 5 = some Tryd.f5) ?_ ?_
  · rfl
  · exact Eq.mp (vc.F5_eq _ _) (vc.known_law (mW_wf _ _) htab herr)

set_option maxRecDepth 100000 in
theorem lifted (os : Os) (started : os.Started) (H : Type) (enc : TypeId × Value → H) :
    ReturnsInHanded {} Tryd.checked os 5 .any (fun w args => (Rows.noteKnownSpec.pre enc Tryd.prog Tryd.f5 [] false w args ∧ laidMetH Tryd.prog Rows.noteKnownRow.laid w) ∧ sizedMet enc Tryd.prog Tryd.f5 (OpenSpec.ofChange Rows.noteKnownSpec) false w args)
      (Rows.noteKnownSpec.post enc Tryd.prog Tryd.f5 false true false false) := by
  refine returnsInHanded_of_change_and (C := Tryd.checked) (X := fun w _ => laidMetH Tryd.prog Rows.noteKnownRow.laid w) (fun _ _ _ hh h => h.of_heap hh) vc.own started (by kernel_rfl) Tryd.func5
    (ChangeSpec.witness_shaped (enc := enc) (C := Tryd.checked) (os := os) (X := fun w _ => laidMetH Tryd.prog Rows.noteKnownRow.laid w) false (World.laidAll Tryd.prog os Rows.noteKnownRow.laid) #[] 8 (World.laidAll_os _ _ _)
      (World.shaped_of_ZipB (by kernel_rfl) (by kernel_rfl)) (by kernel_rfl) (by kernel_rfl) (by kernel_rfl)
      (by rw [MakeChecks.laidMetH_plain _ _ _ (by kernel_rfl)]; exact laidMet_laidAll _ (by kernel_rfl) (by kernel_rfl))) ?_
  intro W base args ds gs before hval0 hW hcnd _ hL _
  have hval : ∀ (j : Nat) t v, Tryd.f5.params[j]? = some t → args[j]? = some v → Value.okWide Tryd.prog W .any base t v := hval0
  have hW' := hW
  obtain ⟨p, q, hA0, hV, rfl, hfz, hnd⟩ := hW
  have hA : DataW.TrodAll enc Tryd.prog W 0 (fun _ => true) true Tryd.f5.params.toList args.toList ds p := hA0
  rw [Tryd.params5] at hA hval
  obtain ⟨rfl, rfl⟩ := trodVars_none hV
  clear hA0 hval0
  simp only [List.append_nil] at hW'
  have hval' : ∀ (j : Nat) t v, ([] : List TypeId)[j]? = some t → args.toList[j]? = some v → Value.okWide Tryd.prog W .any base t v := fun j t v h1 h2 => by simp at h1
  obtain ⟨hc, rfl⟩ := walk (enc := enc) W args ds p hL hA hval'
  refine hc.mono fun e W' ⟨he, hg⟩ => ?_
  subst he
  exact ⟨_, rfl, post_law Tryd.underlying4 (by kernel_rfl) rfl rfl (by kernel_rfl) (by rw [Tryd.params5]; exact hW') (by rw [Tryd.params5]; exact hA) hg⟩

theorem over : Rows.NoteKnownSaid :=
  OpenClaim.holds_of_wide 5 Tryd.f5 rfl rfl rfl rfl rfl rfl rfl ⟨rfl, rfl, rfl, rfl, rfl⟩ rfl rfl rfl rfl rfl (by kernel_rfl) Tryd.func5 (by kernel_rfl)
    (of_decide_eq_true (by kernel_rfl)) (by unfold Func.isWrapper; first | (rw [if_pos (by decide +kernel)]; kernel_rfl) | (rw [if_neg (by decide +kernel)]; exact ⟨rfl, rfl⟩))
    (fun os started H enc _ => lifted os started H enc)

theorem plain : (Tryd.f5.params.toList.all fun t => !Tryd.prog.wantsStandIn t) = true := by kernel_rfl

theorem proved : Rows.NoteKnownCardSaid :=
  Claim7.holds_tied_plain_at .later [] [.data, .data, .data, .data, .sentinel, .sentinel, .pinned] true (true, "c30ddd46be1fac33a1844d5dc694f1f6238effd4d6a68e7e5fdb6c8e6b4ecc99") true
    over (fun _ h => by cases h) (by kernel_rfl) (fun _ h => by cases h) noteKnown_row_tie rfl ⟨rfl, rfl⟩ (by kernel_rfl) rfl
    (fun f fn hf hfn => by
      obtain rfl : f = 5 := Option.some.inj ((show Tryd.prog.funcNamed "beadle/beadlelaw21.NoteKnown" = some 5 by kernel_rfl).symm.trans hf) |>.symm
      obtain rfl : fn = Tryd.f5 := (Option.some.inj (Tryd.func5.symm.trans hfn)).symm
      exact ⟨by kernel_rfl, fun j t ht => by
        rw [Tryd.params5] at ht
        simp at ht⟩)
    (by kernel_rfl)
#print axioms proved
end Go.Proofs.YtdeknemdeijljaaDoor.noteKnown
