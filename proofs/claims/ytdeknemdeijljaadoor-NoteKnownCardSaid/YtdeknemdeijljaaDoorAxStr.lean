/-
  OWN WORK. STRINGS AS LISTS OF BYTES.
-/
import Derived.Test.YtdeknemdeijljaaDoorAxArr
import Derived.Test.YtdeknemdeijljaaDoorAxFmt
namespace Go.AX
open Go

abbrev bs (l : List UInt8) : ByteArray := ⟨l.toArray⟩
theorem bs_data (s : ByteArray) : bs s.data.toList = s := by cases s; rfl
theorem catS_bs (a b : List UInt8) : catS (bs a) (bs b) = bs (a ++ b) := rfl
theorem lenS_bs (a : List UInt8) : lenS (bs a) = a.length := rfl
theorem bs_inj {a b : List UInt8} : bs a = bs b ↔ a = b := by
  constructor
  · intro h
    have := congrArg (fun s : ByteArray => s.data.toList) h
    simpa using this
  · rintro rfl; rfl
theorem eqS_bs {a b : List UInt8} : eqS (bs a) (bs b) = true ↔ a = b := by rw [eqS_iff, bs_inj]

theorem u8_back (b : UInt8) : UInt8.ofNat b.toNat = b := by simp
theorem bytesOf_u8 : ∀ l : List UInt8, bytesOf (l.map u8V) = some l
  | [] => rfl
  | b :: r => by
    simp only [List.map_cons, u8V, bytesOf]
    rw [bytesOf_u8 r]
    simp

/-- string(bytes) -/
theorem convert_bytes {cx : Cx} {m : Mem} {s d e : TypeId} {b o n c : Nat} {l : List UInt8} (h1 : cx.un.get s = some (.slice e)) (h2 : cx.un.get d = some .string) (h3 : cx.un.get e = some (.int .u8)) (hr : rowAtL m ⟨b, o, none⟩ n = some (l.map u8V)) :
    convertA cx m s d (.slice (some ⟨b, o, none⟩) n c) = some (.string (bs l)) := by
  unfold convertA
  simp only [h1, h2, h3, hr, bytesOf_u8]

/-- a cut of an array that a pointer tells -/
theorem sliceOp_arr {cx : Cx} {m : Mem} {t e : TypeId} {s n b i j : Nat} {lo hi : Option Value} (ht : cx.un.get t = some (.array n e)) (hs : sizeT cx e = some s) (hl : liveCells m b = true) (hhi : boundA n hi n = some j) (hlo : boundA 0 lo j = some i) (hi' : i < n) :
    sliceOp cx m t (.pointer (some ⟨b, 0, none⟩)) lo hi none = some (.slice (some ⟨b, i * s, none⟩) (j - i) (n - i)) := by
  unfold sliceOp
  simp only [ht, hs, hl, hhi, hlo]
  rw [if_neg (by omega)]
  simp [addA]

/-- a cut of a string -/
theorem sliceOp_str {cx : Cx} {m : Mem} {t : TypeId} {l : List UInt8} {i j : Nat} {lo hi : Option Value} (ht : cx.un.get t = some .string) (hhi : boundA l.length hi l.length = some j) (hlo : boundA 0 lo j = some i) :
    sliceOp cx m t (.string (bs l)) lo hi none = some (.string (bs ((l.drop i).take (j - i)))) := by
  unfold sliceOp
  simp only [ht, hhi, hlo]

theorem Row.live {m : Mem} {b : Nat} {l : List Value} {e : TypeId} {x : Bool} (h : Row m b l e x) : liveCells m b = true := by
  obtain ⟨c, h1, _⟩ := h
  unfold liveCells; rw [h1]

theorem Row.cellsAt {m : Mem} {b : Nat} {l : List Value} {e : TypeId} {x : Bool} (h : Row m b l e x) {o n : Nat} (hn : o + n ≤ l.length) : ∃ c, m.hp.get b = some (.cells c l.length e x) ∧ readL c n o = some ((l.drop o).take n) := by
  obtain ⟨c, h1, h2⟩ := h
  refine ⟨c, h1, ?_⟩
  have hl : ((l.drop o).take n).length = n := by simp; omega
  have := readL_of (c := c) (vs := (l.drop o).take n) (i := o) (fun j v e => by
    have hj : j < n := by rw [← hl]; exact (List.getElem?_eq_some_iff.1 e).1
    rw [h2 (o + j) (by omega), ← e, List.getElem?_take, if_pos hj, List.getElem?_drop])
  rwa [hl] at this

/-- formatBase10's summary, at a row -/
theorem fmt10_at {m : Mem} {b o n c : Nat} {l : List Value} {e : TypeId} {x : Bool} {u : Nat} (h : Row m b l e x) (hn : o + (n + 1) ≤ l.length) (hf : m.fl ≤ b) (hb : ∃ bs' : List UInt8, (l.drop o).take (n + 1) = bs'.map u8V) (hu : u < 10 ^ (n + 1)) (hu2 : u < 18446744073709551616) (hn2 : n + 1 ≤ 1000) :
    ∃ m', fmt10A [.slice (some ⟨b, o, none⟩) (n + 1) c, .int .u64 (u : Int)] m = some (.tuple #[], m') ∧ Row m' b (over l o ((digs n u).map u8V)) e x ∧ m'.nx = m.nx ∧ m'.fl = m.fl ∧ ∀ b', b' ≠ b → m'.hp.get b' = m.hp.get b' := by
  obtain ⟨cc, h1, h2⟩ := h.cellsAt hn
  refine ⟨{ m with hp := m.hp.put b (.cells (writeL cc ((digs n u).map u8V) o) l.length e x) }, ?_, ?_, rfl, rfl, fun b' hb' => by show (m.hp.put b _).get b' = _; rw [Tr.get_put, if_neg hb']⟩
  · unfold fmt10A
    simp only [h1, h2]
    rw [if_pos ⟨hb, by omega, by omega, by simpa using hu, hn, hf, by omega⟩]
    simp
  · have hdl : ((digs n u).map u8V).length = n + 1 := by simp [digs]
    have := h.wr (o := o) (vs := (digs n u).map u8V) (by omega)
    refine this.congr ?_
    show (m.hp.put b _).get b = _
    unfold AX.wr
    obtain ⟨c2, h3, h4⟩ := h
    rw [h1] at h3
    cases h3
    simp only [h1]

theorem dg_digs (u : Nat) : digs (Lib.nDigits u - 1) u = Lib.decDigits u := by
  have := Lib.nDigits_pos u
  rw [Lib.decDigits_eq]
  unfold digs
  rw [show Lib.nDigits u - 1 + 1 = Lib.nDigits u by omega]

theorem Keep.of_get {m m' : Mem} {b : Nat} {m0 : Mem} (k : Keep m0 m) (hb : m0.nx ≤ b) (hb2 : b < m.nx) (hn : m'.nx = m.nx) (hf : m'.fl = m.fl) (hg : ∀ b', b' ≠ b → m'.hp.get b' = m.hp.get b') : Keep m0 m' :=
  ⟨k.wf.at hb2 hn hf hg, by rw [hn]; exact k.nx, by rw [hf]; exact k.fl, fun b' hb' => by rw [hg b' (by omega)]; exact k.get b' hb'⟩

end Go.AX
