/-
  Package note: what Put, All, Len, Lost do.
-/
import Derived.Test.YtdeknemdeijljaaDoorEvs
namespace Go.Proofs.YtdeknemdeijljaaDoor.vc
open Go Go.AX
set_option linter.unusedVariables false
set_option linter.unusedSimpArgs false

/-- the last of them -/
def keepN (room : Nat) (l : List E) : List E := l.drop (l.length - room)

/-- a row of Notes at a block: its room, what is there, how many were lost -/
def NoteIs (s : Nat) (m : Mem) (p : Nat) (room : Nat) (l : List E) (lost : Nat) : Prop :=
  s ≤ p ∧ ∃ a n c, Row m p [.int .i64 (room : Int), .slice a n c, .int .i64 (lost : Int)] 58 false ∧ OwnE s m a n c l

theorem NoteIs.keep {s : Nat} {m m' : Mem} {p room lost : Nat} {l : List E} (h : NoteIs s m p room l lost) (hw : Wf m) (k : Keep m m') : NoteIs s m' p room l lost := by
  obtain ⟨h1, a, n, c, hR, hO⟩ := h
  exact ⟨h1, a, n, c, k.row hw hR, hO.keep hw k⟩

theorem row_ne {m : Mem} {b b' : Nat} {l l' : List Value} {e e' : TypeId} (h : Row m b l e false) (h' : Row m b' l' e' true) : b' ≠ b := by
  rintro rfl
  obtain ⟨c, h1, _⟩ := h
  obtain ⟨c', h2, _⟩ := h'
  rw [h1] at h2
  injection h2 with h2
  injection h2 with _ _ _ h3
  cases h3

theorem OwnE.wr {s : Nat} {m : Mem} {a : Option Addr} {n c p o : Nat} {l : List E} {vs ps : List Value} {e : TypeId} (h : OwnE s m a n c l) (hp : Row m p ps e false) : OwnE s (AX.wr m p o vs) a n c l := by
  obtain ⟨⟨hl, hG⟩, ha⟩ := h
  refine ⟨⟨hl, ?_⟩, ha⟩
  rcases hG with h1 | ⟨b, h1, h2, h3, h4⟩
  · exact .inl h1
  · exact .inr ⟨b, h1, h2, by simpa using h3, h4.apart (row_ne hp h4)⟩

theorem room_eq (x : Int) : ∃ r : Nat, mnI (mxI x 1) 4096 = (r : Int) ∧ 1 ≤ r ∧ r ≤ 4096 ∧ (r : Int) = min (max x 1) 4096 := by
  have e : mnI (mxI x 1) 4096 = min (max x 1) 4096 := by
    unfold mnI mxI
    split <;> split <;> omega
  refine ⟨(min (max x 1) 4096).toNat, by rw [e]; omega, by omega, by omega, by omega⟩

theorem new_ok {x : Int} {m : Mem} {Q : Value → Mem → Prop} (hw : Wf m)
    (h : ∀ m' (r : Nat), Keep m m' → 1 ≤ r → r ≤ 4096 → (r : Int) = min (max x 1) 4096 → NoteIs m.nx m' m.nx r [] 0 → Q (.pointer (some ⟨m.nx, 0, none⟩)) m') : CallW cx 10 [.int .i64 x] m Q := by
  apply F10_ok; unfold F10
  obtain ⟨r, e, h1, h2, h3⟩ := room_eq x
  rw [mBind_iff, e]
  exact h _ r (Keep.refl hw).newO h1 h2 h3 ⟨Nat.le_refl _, none, 0, 0, Row.newO, OwnE.nil _ _⟩

theorem all_ok {s p room lost : Nat} {l : List E} {m : Mem} {Q : Value → Mem → Prop} (hw : Wf m) (hN : NoteIs s m p room l lost) (hn : l.length ≤ 1000000)
    (h : ∀ m' a c, Keep m m' → EvsIs m' a l.length l → Q (.slice a l.length c) m') : CallW cx 12 [.pointer (some ⟨p, 0, none⟩)] m Q := by
  obtain ⟨h1, a, n, c, hR, hO⟩ := hN
  have hE := hO.evs
  have hln := hE.1
  subst hln
  apply F12_ok; unfold F12
  rw [vPtr_some]
  refine ⟨a, _, c, hR.rd, clone_ok hw hE hn fun m' a' c' k hE' _ => ⟨_, _, _, rfl, h m' a' c' k hE'⟩⟩

theorem len_ok {s p room lost : Nat} {l : List E} {m : Mem} {Q : Value → Mem → Prop} (hN : NoteIs s m p room l lost) (h : Q (.int .i64 (l.length : Nat)) m) : CallW cx 13 [.pointer (some ⟨p, 0, none⟩)] m Q := by
  obtain ⟨h1, a, n, c, hR, hO⟩ := hN
  have hE := hO.evs
  have hln := hE.1
  subst hln
  apply F13_ok; unfold F13
  rw [vPtr_some]
  exact ⟨a, _, c, hR.rd, h⟩

theorem lost_ok {s p room lost : Nat} {l : List E} {m : Mem} {Q : Value → Mem → Prop} (hN : NoteIs s m p room l lost) (h : Q (.int .i64 (lost : Nat)) m) : CallW cx 14 [.pointer (some ⟨p, 0, none⟩)] m Q := by
  obtain ⟨h1, a, n, c, hR, hO⟩ := hN
  apply F14_ok; unfold F14
  rw [vPtr_some]
  exact ⟨_, hR.rd, h⟩

theorem sub_room {N r : Nat} (hN : N ≤ 1000000) (hr : r ≤ 4096) : subI .i64 (lenI N) (r : Int) = (N : Int) - (r : Int) := by unfold lenI; exact subI_64 (by omega) (by omega)
theorem add_lost {x i : Nat} (hx : x ≤ 1000000) (hi : i ≤ 1000000) : addI .i64 (x : Int) (i : Int) = ((x + i : Nat) : Int) := by rw [addI_64 (by omega) (by omega)]; omega

theorem put_ok {m0 m : Mem} {p room lost : Nat} {l evs : List E} {a1 : Option Addr} {n1 c1 : Nat} {Q : Value → Mem → Prop} (hw0 : Wf m0) (k : Keep m0 m) (hN : NoteIs m0.nx m p room l lost) (hE : EvsIs m a1 n1 evs)
    (hpos : 0 < n1) (hr : 1 ≤ room) (hr2 : room ≤ 4096) (hl : l.length ≤ 4096) (hn1 : n1 ≤ 1000) (hlost : lost ≤ 1000000)
    (h : ∀ m', Keep m0 m' → NoteIs m0.nx m' p room (keepN room (l ++ evs)) (lost + ((l ++ evs).length - room)) → Q (.tuple #[]) m') : CallW cx 11 [.pointer (some ⟨p, 0, none⟩), .slice a1 n1 c1] m Q := by
  obtain ⟨hp, a, n, c, hR, hO⟩ := hN
  have hln := hO.evs.1
  have hle := hE.1
  have hlen : (l ++ evs).length = n + n1 := by rw [List.length_append]; omega
  apply F11_ok; unfold F11
  rw [vPtr_some]
  obtain ⟨m1, ha, k1, nx1, hO1, g1⟩ := app_ok (c1 := c1) k hw0 hO hE hpos (by omega)
  refine ⟨a, n, c, hR.rd, _, _, _, m1, ha, ?_⟩
  rw [vPtr_some]
  have hpm : p < m.nx := k.wf.row hR
  have gp : m1.hp.get p = m.hp.get p := g1 p (by omega) fun b e e' => by
    subst e'
    obtain ⟨⟨_, hG⟩, _⟩ := hO
    rcases hG with ⟨e1, _⟩ | ⟨b', e1, _, _, h4⟩
    · rw [e] at e1; cases e1
    · rw [e] at e1; cases e1
      exact row_ne hR h4 rfl
  have hR1 : Row m1 p _ 58 false := hR.congr gp
  have hfl := hw0.1
  have fl1 := k1.fl
  refine ⟨hR1.okW (by omega) (by simp), ?_⟩
  rw [mBind_iff, mBind_iff]
  generalize hm3 : bump (wr m1 p (0 + 1) _) 11 = m3
  have k3 : Keep m0 m3 := hm3 ▸ (k1.wr hp).bump
  have nx3 : m3.nx = m1.nx + 11 := by rw [← hm3]; simp
  have hR3 : Row m3 p [.int .i64 (room : Int), .slice (some ⟨m.nx, 0, none⟩) (n + n1) (n + n1), .int .i64 (lost : Int)] 58 false := by
    have := (hR1.wr1 (o := 0 + 1) (v := .slice (some ⟨m.nx, 0, none⟩) (n + n1) (n + n1)) (by simp)).bump (n := 11)
    rw [hm3] at this; exact this
  have hO3 : OwnE m.nx m3 (some ⟨m.nx, 0, none⟩) (n + n1) (n + n1) (l ++ evs) := hm3 ▸ (hO1.wr (p := p) hR1 : OwnE m.nx (AX.wr m1 p (0 + 1) _) _ _ _ _)
  rw [vPtr_some]
  refine ⟨_, _, _, hR3.rd, ?_⟩
  rw [vPtr_some]
  refine ⟨_, hR3.rd, ?_⟩
  rw [sub_room (by omega) hr2, splitB_iff]
  have nx0 := k.nx
  refine ⟨fun e => ?_, fun e => ?_⟩
  · rw [ltI_true] at e
    obtain ⟨i, hi⟩ : ∃ i : Nat, i + room = n + n1 := ⟨n + n1 - room, by omega⟩
    have ei : ((n + n1 : Nat) : Int) - (room : Int) = (i : Int) := by omega
    rw [ei, vPtr_some]
    obtain ⟨⟨hlG, hG3⟩, hb3⟩ := hO3
    rcases hG3 with ⟨e1, _⟩ | ⟨b', e1, _, hfl3, hRow⟩
    · cases e1
    cases e1
    obtain ⟨cc, hc1, hc2⟩ := id hRow
    have hs := slice_some (o := 0) (n := n + n1) (c := n + n1) (i := i) (j := n + n1) hc1 (fun _ => rfl) (hi := none) (lo := some (.int .i64 (i : Int))) (by unfold boundA; simp) (bound_lo (by omega)) (Nat.le_refl _)
    refine ⟨_, _, _, hR3.rd, _, _, _, hs, ?_⟩
    have hEd : EvsIs m3 (some ⟨m.nx, 0 + i * 4, none⟩) (n + n1 - i) ((l ++ evs).drop i) := by
      refine ⟨by rw [List.length_drop]; omega, fun j v hv => ⟨_, _, rfl, ?_⟩⟩
      rw [flat_drop, List.getElem?_drop] at hv
      rw [hRow.rd, Nat.zero_add]; exact hv
    refine clone_ok k3.wf hEd (by omega) fun m4 a4 c4 k4 _ hO4 => ⟨_, _, _, rfl, ?_⟩
    have hO4 := hO4 (by omega)
    have k04 := k3.trans k4
    have hR4 := k4.row k3.wf hR3
    have fl4 := k04.fl
    rw [vPtr_some]
    refine ⟨hR4.okW (by omega) (by simp), ?_⟩
    rw [mBind_iff]
    have hR5 := hR4.wr1 (o := 0 + 1) (v := .slice a4 (n + n1 - i) c4) (by simp)
    have hO5 : OwnE m3.nx (AX.wr m4 p (0 + 1) [.slice a4 (n + n1 - i) c4]) a4 (n + n1 - i) c4 ((l ++ evs).drop i) := hO4.wr hR4
    have k5 : Keep m0 (AX.wr m4 p (0 + 1) [.slice a4 (n + n1 - i) c4]) := k04.wr hp
    generalize AX.wr m4 p (0 + 1) [.slice a4 (n + n1 - i) c4] = m5 at hR5 hO5 k5 ⊢
    have fl5 := k5.fl
    rw [vPtr_some]
    refine ⟨_, hR5.rd, ?_⟩
    rw [vPtr_some]
    refine ⟨hR5.okW (by omega) (by simp), ?_⟩
    rw [mBind_iff, add_lost hlost (by omega)]
    refine h _ (k5.wr hp) ⟨hp, a4, n + n1 - i, c4, ?_, ?_⟩
    · have := hR5.wr1 (o := 0 + 2) (v := .int .i64 ((lost + i : Nat) : Int)) (by simp)
      have el : lost + ((l ++ evs).length - room) = lost + i := by omega
      rw [el]
      exact this
    · have el : keepN room (l ++ evs) = (l ++ evs).drop i := by unfold keepN; rw [hlen, show n + n1 - room = i by omega]
      rw [el]
      have := hO5.wr (o := 0 + 2) (vs := [.int .i64 ((lost + i : Nat) : Int)]) hR5
      exact ⟨this.1, fun b e => by have := this.2 b e; omega⟩
  · rw [ltI_false] at e
    have e0 : (l ++ evs).length - room = 0 := by omega
    have el : keepN room (l ++ evs) = l ++ evs := by unfold keepN; rw [e0, List.drop_zero]
    refine h _ k3 ?_
    rw [e0, el, Nat.add_zero]
    exact ⟨hp, _, _, _, hR3, hO3.1, fun b e => by have := hO3.2 b e; omega⟩

theorem keepN_len {room : Nat} {l : List E} : (keepN room l).length = min l.length room := by unfold keepN; rw [List.length_drop]; omega

theorem inc64 {k : Nat} (h : k ≤ 1000000) : addI .i64 (k : Int) 1 = ((k + 1 : Nat) : Int) := by rw [addI_64 (by omega) (by omega)]; omega
theorem less_w {n k : Nat} (h : k < n) : n - (k + 1) < n - k := by omega
theorem joinK_of {α : Type} {j : α} {f : α → Prop} (P : α → Prop) (hj : P j) (h : ∀ J, P J → f J) : joinK j f := h j hj
theorem zero_less {n k : Nat} : k < n ↔ k < n := Iff.rfl

end Go.Proofs.YtdeknemdeijljaaDoor.vc
