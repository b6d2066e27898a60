/-
  Package fault: errors.As where a Fault is asked for; all.
-/
import Derived.Test.YtjefcmlnclnbeaaDoorCode
namespace Go.Proofs.YtjefcmlnclnbeaaDoor.vc
open Go Go.AX
set_option linter.unusedVariables false
set_option linter.unusedSimpArgs false
set_option maxRecDepth 100000

/-- a number, wrapped by these Faults: each one's block, Op, ID -/
inductive Chn (m : Mem) : Value → List (Nat × ByteArray × Int) → Int → Prop
  | num (c : Int) : Chn m (.iface 27 (.int .i64 c)) [] c
  | wrap {b : Nat} {s : ByteArray} {id : Int} {v : Value} {l : List (Nat × ByteArray × Int)} {c : Int} (hr : Row m b [.string s, .int .i64 id, v] 36 false) (h : Chn m v l c) : Chn m (.iface 31 (.pointer (some ⟨b, 0, none⟩))) ((b, s, id) :: l) c

theorem Chn.ch {m : Mem} {v : Value} {l : List (Nat × ByteArray × Int)} {c : Int} (h : Chn m v l c) : Ch m v l.length c := by
  induction h with
  | num c => exact .num c
  | wrap hr _ ih => exact .wrap hr ih

theorem Chn.fr {m m' : Mem} {v : Value} {l : List (Nat × ByteArray × Int)} {c : Int} {S : List Nat} (h : Chn m v l c) (hw : Wf m) (k : Fr m m' S) (hS : ∀ x ∈ l, x.1 ∉ S) : Chn m' v l c := by
  induction h with
  | num c => exact .num c
  | @wrap b s id v l c hr _ ih => exact .wrap (k.row hr (hw.row hr) (hS _ (List.mem_cons_self ..))) (ih fun x hx => hS x (List.mem_cons_of_mem _ hx))

theorem Chn.keep {m m' : Mem} {v : Value} {l : List (Nat × ByteArray × Int)} {c : Int} (h : Chn m v l c) (hw : Wf m) (k : Keep m m') : Chn m' v l c :=
  h.fr hw (S := []) ⟨k.nx, k.fl, fun b hb _ => k.get b hb⟩ (fun _ _ h => by cases h)

theorem Chn.lt {m : Mem} {v : Value} {l : List (Nat × ByteArray × Int)} {c : Int} (h : Chn m v l c) (hw : Wf m) : ∀ x ∈ l, x.1 < m.nx := by
  induction h with
  | num c => intro x hx; cases hx
  | @wrap b s id v l c hr _ ih =>
    intro x hx
    rcases List.mem_cons.1 hx with rfl | hx
    · exact hw.row hr
    · exact ih x hx

theorem asAs27 (c : Value) : assertA cx (.iface 27 c) 24 77 true = some (.tuple #[.nilIface, .bool false]) := by kernel_rfl

theorem elem33 {m : Mem} {a p : Nat} (h : rowAtL m ⟨a, 0, none⟩ 1 = some [.pointer (some ⟨p, 0, none⟩)]) :
    s24 [.agg #[hT 4 33, .pointer (some ⟨a, 0, none⟩), .int .u64 150]] m = some (.agg #[hT 4 31, .pointer (some ⟨p, 0, none⟩), .int .u64 406], m) := by
  have ev : valT 4 (.agg #[hT 4 33, .pointer (some ⟨a, 0, none⟩), .int .u64 150]) = some (33, ⟨a, 0, none⟩, 150) := rfl
  unfold s24 velemA
  simp only [ev, h]
  rfl

theorem set31 {m m' : Mem} {p b : Nat} {q : Option Addr} (h : rowAtL m ⟨b, 0, none⟩ 1 = some [.pointer q]) (hs : storeL m ⟨p, 0, none⟩ [.pointer q] = some m') :
    s25 [.agg #[hT 4 31, .pointer (some ⟨p, 0, none⟩), .int .u64 406], .agg #[hT 4 31, .pointer (some ⟨b, 0, none⟩), .int .u64 150]] m = some (.tuple #[], m') := by
  have ev : valT 4 (.agg #[hT 4 31, .pointer (some ⟨p, 0, none⟩), .int .u64 406]) = some (31, ⟨p, 0, none⟩, 406) := rfl
  have ew : valT 4 (.agg #[hT 4 31, .pointer (some ⟨b, 0, none⟩), .int .u64 150]) = some (31, ⟨b, 0, none⟩, 150) := rfl
  unfold s25 vsetA
  simp only [ev, ew, h]
  show (match storeL m ⟨p, 0, none⟩ [.pointer q] with | some m' => (match one1 (Value.pointer q) with | true => some (Value.tuple #[], m') | false => none) | none => none) = _
  rw [hs]
  rfl

theorem nil33 {m : Mem} {a p : Nat} (h : rowAtL m ⟨a, 0, none⟩ 1 = some [.pointer (some ⟨p, 0, none⟩)]) :
    s21 [.agg #[hT 4 33, .pointer (some ⟨a, 0, none⟩), .int .u64 150]] m = some (.bool false, m) := by
  have ev : valT 4 (.agg #[hT 4 33, .pointer (some ⟨a, 0, none⟩), .int .u64 150]) = some (33, ⟨a, 0, none⟩, 150) := rfl
  unfold s21 visNilA
  simp only [ev, h]
  rfl

/-- what came of it -/
def AsF (m m' : Mem) (p : Nat) (q : Option Addr) (l : List (Nat × ByteArray × Int)) (r : Value) : Prop :=
  Wf m' ∧ Fr m m' [p] ∧ match l with
    | [] => r = .bool false ∧ Row m' p [.pointer q] 31 false
    | x :: _ => r = .bool true ∧ Row m' p [.pointer (some ⟨x.1, 0, none⟩)] 31 false

theorem as31 {m : Mem} {v v1 : Value} {p a : Nat} {q : Option Addr} {l : List (Nat × ByteArray × Int)} {c : Int} {Q : Value → Mem → Prop} (hw : Wf m) (hc : Chn m v l c) (hp : Row m p [.pointer q] 31 false) (hfp : m.fl ≤ p) (ha : Row m a [.pointer (some ⟨p, 0, none⟩)] 33 false)
    (h : ∀ r m', AsF m m' p q l r → Q r m') : CallW cx 22 [v, v1, .agg #[hT 4 33, .pointer (some ⟨a, 0, none⟩), .int .u64 150], .iface 67 (.agg #[hT 4 31])] m Q := by
  apply F22_ok (l2 := [hT 4 33, .pointer (some ⟨a, 0, none⟩), .int .u64 150]); unfold F22
  rw [mBind_iff]
  generalize hm1 : newO m _ = m1
  have k1 : Keep m m1 := hm1 ▸ (Keep.refl hw).newO
  have f1 : Fr m m1 [p] := hm1 ▸ (Fr.refl m [p]).newO
  have r1 : Row m1 m.nx [hT 4 33, .pointer (some ⟨a, 0, none⟩), .int .u64 150] 54 false := hm1 ▸ Row.newO
  have hp1 := k1.row hw hp
  have ha1 := k1.row hw ha
  refine ⟨fun v' m2 w => m2 = m1 ∧ v' = v, ⟨0, rfl, rfl⟩, ?_⟩
  rintro v m2 w ⟨rfl, rfl⟩
  have hc1 := hc.keep hw k1
  cases hc1 with
  | num c =>
    refine typeOf_ok' ⟨_, rfl, 67, _, rfl, 64, _, meAss _, CallW.ov (f := s64) (by kernel_rfl) rfl ⟨false, rfl, ?_⟩⟩
    rw [splitB_false]
    refine joinK_of (fun J => J m2) ?_ (fun J hJ => ?_)
    · refine ⟨_, _, asUn27 _, ?_⟩
      rw [splitB_false]
      refine ⟨_, _, asUns27 _, ?_⟩
      rw [splitB_false]
      exact h _ _ ⟨k1.wf, f1, rfl, hp1⟩
    · refine ⟨_, _, asAs27 _, ?_⟩
      rw [splitB_false]
      exact hJ
  | @wrap b s id v' l' c hr hc =>
    refine typeOf_ok' ⟨_, rfl, 67, _, rfl, 64, _, meAss _, CallW.ov (f := s64) (by kernel_rfl) rfl ⟨true, rfl, ?_⟩⟩
    rw [splitB_true]
    refine ⟨_, r1.rowAll, CallW.ov (f := s24) (by kernel_rfl) (elem33 ha1.rowAll) ⟨_, rfl, rfl, ?_⟩⟩
    refine CallW.ov (f := s19) (by kernel_rfl) rfl ⟨_, rfl, rfl, ?_⟩
    show CallW cx 25 _ (newO m2 (row [.pointer (some ⟨b, 0, none⟩)] 31 false)) _
    generalize hm6 : newO m2 (row [.pointer (some ⟨b, 0, none⟩)] 31 false) = m6
    have k16 : Keep m2 m6 := hm6 ▸ (Keep.refl k1.wf).newO
    have f6 : Fr m m6 [p] := hm6 ▸ f1.newO
    have r6 : Row m6 m2.nx [.pointer (some ⟨b, 0, none⟩)] 31 false := hm6 ▸ Row.newO
    have hp6 := k16.row k1.wf hp1
    have fl6 := f6.fl
    have hst : storeL m6 ⟨p, 0, none⟩ [.pointer (some ⟨b, 0, none⟩)] = some (wr m6 p 0 [.pointer (some ⟨b, 0, none⟩)]) := storeL_of_okW (hp6.okW (by omega) (by simp)) rfl
    refine CallW.ov (f := s25) (by kernel_rfl) (set31 r6.rowAll hst) ⟨rfl, ?_⟩
    exact h _ _ ⟨k16.wf.wr, f6.wr (.inl (by simp)), rfl, hp6.wr1 (o := 0) (by simp)⟩

theorem asFault {m : Mem} {v : Value} {p : Nat} {q : Option Addr} {l : List (Nat × ByteArray × Int)} {c : Int} {Q : Value → Mem → Prop} (hw : Wf m) (hE : ErrT m) (hc : Chn m v l c) (hp : Row m p [.pointer q] 31 false) (hfp : m.fl ≤ p)
    (h : ∀ r m', AsF m m' p q l r → Q r m') : CallW cx 11 [v, .iface 33 (.pointer (some ⟨p, 0, none⟩))] m Q := by
  apply F11_ok; unfold F11
  refine ⟨false, hc.ch.some m, ?_⟩
  rw [splitB_false]
  refine joinK_of (fun J => J m) ?_ (fun J hJ => ⟨false, by kernel_rfl, hJ⟩)
  refine CallW.ov (f := s19) (r := .agg #[hT 4 33, .pointer (some ⟨m.nx, 0, none⟩), .int .u64 150]) (m' := newO m (row [.pointer (some ⟨p, 0, none⟩)] 33 false)) (by kernel_rfl) rfl ⟨[hT 4 33, .pointer (some ⟨m.nx, 0, none⟩), .int .u64 150], rfl, rfl, ?_⟩
  generalize hm2 : newO m (row [.pointer (some ⟨p, 0, none⟩)] 33 false) = m2
  have k2 : Keep m m2 := hm2 ▸ (Keep.refl hw).newO
  have f2 : Fr m m2 [p] := hm2 ▸ (Fr.refl m [p]).newO
  have n2 : m2.nx = m.nx + 1 := by rw [← hm2]; rfl
  have ra2 : Row m2 m.nx [.pointer (some ⟨p, 0, none⟩)] 33 false := hm2 ▸ Row.newO
  rw [mBind_iff]
  generalize hm3 : newO m2 _ = m3
  have k3 : Keep m2 m3 := hm3 ▸ (Keep.refl k2.wf).newO
  have f3 : Fr m m3 [p] := hm3 ▸ f2.newO
  have r3 : Row m3 m2.nx [.pointer none, .pointer none, .int .u64 0] 54 false := hm3 ▸ Row.newO
  have ra3 := k3.row k2.wf ra2
  have hfl := k2.wf.1
  have fl3 := k3.fl
  show okW m3 m2.nx 0 3 ∧ _
  refine ⟨r3.okW (by omega) (by simp), ?_⟩
  rw [mBind_iff]
  have r4 := r3.wr (o := 0) (vs := [hT 4 33, .pointer (some ⟨m.nx, 0, none⟩), .int .u64 150]) (by simp)
  have k4 : Keep m2 (AX.wr m3 m2.nx 0 [hT 4 33, .pointer (some ⟨m.nx, 0, none⟩), .int .u64 150]) := k3.wr (Nat.le_refl _)
  have f4 : Fr m (AX.wr m3 m2.nx 0 [hT 4 33, .pointer (some ⟨m.nx, 0, none⟩), .int .u64 150]) [p] := f3.wr (.inr (by omega))
  show ∃ l15, rowAtL (AX.wr m3 m2.nx 0 [hT 4 33, .pointer (some ⟨m.nx, 0, none⟩), .int .u64 150]) _ _ = _ ∧ _
  generalize AX.wr m3 m2.nx 0 [hT 4 33, .pointer (some ⟨m.nx, 0, none⟩), .int .u64 150] = m4 at r4 k4 f4 ⊢
  have r4' : Row m4 m2.nx [hT 4 33, .pointer (some ⟨m.nx, 0, none⟩), .int .u64 150] 54 false := r4
  have k04 := k2.trans k4
  have ra4 := k4.row k2.wf ra2
  have fl4 := k04.fl
  refine ⟨_, r4'.rowAll, CallW.ov (f := s20) (by kernel_rfl) rfl ⟨_, rfl, ?_⟩⟩
  refine joinK_of (fun J => J m4) ?_ (fun J hJ => ?_)
  · refine ⟨67, _, rfl, 66, _, meElem _, CallW.ov (f := s66) (by kernel_rfl) rfl ⟨_, rfl, ?_⟩⟩
    refine joinK_of (fun J => J m4) ?_ (fun J hJ => ?_)
    · refine ⟨_, r4'.rowAll, as31 k04.wf (hc.keep hw k04) (k04.row hw hp) (by omega) ra4 fun r m' ha => ?_⟩
      have ha' : AsF m m' p q l r := ⟨ha.1, f4.trans ha.2.1 (fun b hb => .inl hb), ha.2.2⟩
      have : ∃ b, r = .bool b := by
        have := ha'.2.2
        cases l with
        | nil => exact ⟨_, this.1⟩
        | cons x y => exact ⟨_, this.1⟩
      obtain ⟨b, rfl⟩ := this
      exact ⟨b, rfl, h _ m' ha'⟩
    · refine ⟨67, _, rfl, 40, _, meKind 31, CallW.ov (f := s40) (by kernel_rfl) rfl ⟨_, rfl, ?_⟩⟩
      rw [show neI 22 20 = true from neI_true.2 (by decide), splitB_true]
      refine ⟨_, hE.keep hw k04, ?_⟩
      refine ⟨67, _, rfl, 67, _, meImpl _, CallW.ov (f := s67) (by kernel_rfl) rfl ⟨true, rfl, ?_⟩⟩
      rw [show (!true) = false from rfl, splitB_false]
      exact hJ
  · refine ⟨67, _, rfl, 40, _, meKind 33, CallW.ov (f := s40) (by kernel_rfl) rfl ⟨_, rfl, ?_⟩⟩
    rw [show neI 22 22 = false from neI_false.2 rfl, splitB_false]
    refine ⟨_, r4'.rowAll, CallW.ov (f := s21) (by kernel_rfl) (nil33 ra4.rowAll) ⟨false, rfl, ?_⟩⟩
    rw [splitB_false]
    exact hJ

end Go.Proofs.YtjefcmlnclnbeaaDoor.vc
