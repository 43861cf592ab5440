/- How frames, and strings, that came in lie. -/
import Derived.Test.YtffcambjdlkfbaaRows
import Derived.Test.YtffcambjdlkfbaaRecW
import Derived.ProofKit
import Derived.OpenShut
import Derived.ChangeOld
import Derived.Below
import Derived.Deep.Slices
namespace Go.Proofs.Ytffcambjdlkfbaa
open Go.ChangeShapes Go.WideShapes Go.ChangeAt Go.RowKit Go.Deep

theorem Try.own : ownKnob Try.prog.godebug = none := by kernel_rfl
theorem Try.laidOut : laidOutB Try.prog = true := by kernel_rfl
theorem Try.cells3 : Try.prog.cellsOf 3 = 1 := by kernel_rfl
theorem Try.cells9 : Try.prog.cellsOf 9 = 1 := by kernel_rfl
theorem Try.cells54 : Try.prog.cellsOf 54 = 6 := by kernel_rfl

theorem list6 {α : Type} (l : List α) (h : l.length = 6) : ∃ a b c d e f, l = [a, b, c, d, e, f] := by
  match l, h with
  | [a, b, c, d, e, f], _ => exact ⟨a, b, c, d, e, f, rfl⟩

theorem choose_list {α : Type} (p : Nat → α → Prop) : ∀ n, (∀ i, i < n → ∃ x, p i x) → ∃ l : List α, l.length = n ∧ ∀ i x, l[i]? = some x → p i x := by
  intro n
  induction n with
  | zero => intro _; exact ⟨[], rfl, fun i x h => by simp at h⟩
  | succ n ih =>
    intro h
    obtain ⟨l, hl, hp⟩ := ih fun i hi => h i (by omega)
    obtain ⟨y, hy⟩ := h n (by omega)
    refine ⟨l ++ [y], by simp [hl], fun i x hx => ?_⟩
    rcases Nat.lt_or_ge i l.length with hi | hi
    · rw [List.getElem?_append_left hi] at hx; exact hp i x hx
    · rw [List.getElem?_append_right hi] at hx
      have : i - l.length = 0 := by
        rcases Nat.eq_zero_or_pos (i - l.length) with h0 | h0
        · exact h0
        · rw [List.getElem?_eq_none (by simp; omega)] at hx; cases hx
      rw [this] at hx
      simp at hx
      subst hx
      rw [show i = n from by omega]; exact hy

theorem addr_add (g o k : Nat) : (⟨g, o, none⟩ : Addr).add k = ⟨g, o + k, none⟩ := by unfold Addr.add; split <;> simp_all

/-- One frame's six cells. -/
theorem open_frm {H : Type} {enc : TypeId × Value → H} {W : World} {n : Nat} {cs : List Value} {d : DataW H × List MemPlace} {b : Nat} {sp : Nat → Bool} {held : Bool}
    (h : DataW.trod enc Try.prog W b sp held n 54 cs = some d) : ∃ x : Frm, cs = x.cells := by
  obtain ⟨xs, m, _, _, hlen, hxl, hf⟩ := DataW.trod_struct Try.underlying54 h
  rw [Try.cells54] at hlen
  obtain ⟨c0, c1, c2, c3, c4, c5, rfl⟩ := list6 cs hlen
  have f0 := hf 0 _ rfl
  have f1 := hf 1 _ rfl
  have f2 := hf 2 _ rfl
  have f3 := hf 3 _ rfl
  have f4 := hf 4 _ rfl
  have f5 := hf 5 _ rfl
  have hx : ∀ i, i < 6 → ∃ y, xs[i]? = some y := fun i hi => ⟨_, List.getElem?_eq_getElem (by rw [hxl]; exact hi)⟩
  obtain ⟨y0, e0⟩ := hx 0 (by omega)
  obtain ⟨y1, e1⟩ := hx 1 (by omega)
  obtain ⟨y2, e2⟩ := hx 2 (by omega)
  obtain ⟨y3, e3⟩ := hx 3 (by omega)
  obtain ⟨y4, e4⟩ := hx 4 (by omega)
  obtain ⟨y5, e5⟩ := hx 5 (by omega)
  rw [e0] at f0
  rw [e1] at f1
  rw [e2] at f2
  rw [e3] at f3
  rw [e4] at f4
  rw [e5] at f5
  simp [Try.cells3, Try.cells9] at f0 f1 f2 f3 f4 f5
  obtain ⟨x0, a0, _, _⟩ := DataW.trod_int Try.underlying3 f0
  obtain ⟨x1, a1, _, _⟩ := DataW.trod_int Try.underlying3 f1
  obtain ⟨x2, a2, _, _⟩ := DataW.trod_int Try.underlying3 f2
  obtain ⟨x3, a3, _, _⟩ := DataW.trod_int Try.underlying3 f3
  obtain ⟨x4, a4, _, _⟩ := DataW.trod_int Try.underlying3 f4
  obtain ⟨s, a5, _, _⟩ := DataW.trod_string Try.underlying9 f5
  simp only [List.cons.injEq, and_true] at a0 a1 a2 a3 a4 a5
  exact ⟨⟨x0, x1, x2, x3, x4, s⟩, by unfold Frm.cells; rw [a0, a1, a2, a3, a4, a5]⟩

theorem isFrms_of {H : Type} {enc : TypeId × Value → H} {W : World} {a : Option Addr} {len cap : Nat} {d : DataW H} {p : List MemPlace}
    (h : DataW.Trod enc Try.prog W 0 (fun _ => true) true 57 (.slice a len cap) d p) : IsFrmList W a len ∧ len ≤ cap ∧ cap ≤ 9223372036854775807 := by
  obtain ⟨fuel, hf⟩ := h
  rcases open_slice Try.underlying57 hf with ⟨hcs, _⟩ | ⟨x, l, c, m, n, D, Pl, hcs, _, hl, hm, hmm, _, hi⟩
  · simp [Value.cells] at hcs
    obtain ⟨_, rfl, rfl⟩ := hcs
    exact ⟨⟨[], rfl, .inl rfl⟩, by omega, by omega⟩
  · simp [Value.cells] at hcs
    obtain ⟨rfl, rfl, rfl⟩ := hcs
    have hmc : m = cap := by simpa using hmm
    refine ⟨?_, hl, by unfold maxLen at hm; omega⟩
    by_cases h0 : len = 0
    · subst h0; exact ⟨[], rfl, .inl rfl⟩
    rw [Try.cells54] at hi
    obtain ⟨g, o, spot⟩ := x
    obtain ⟨cs0, hc0, ht0⟩ := hi 0 (by omega)
    obtain ⟨x0, rfl⟩ := open_frm ht0
    obtain ⟨_, _, hat0⟩ := World.cells?_some hc0
    have h00 := hat0 0 (by simp)
    simp [Addr.add, Frm.cells] at h00
    have hspot : spot = none := World.cell?_spot h00
    subst hspot
    obtain ⟨ops, hol, hops⟩ := choose_list (fun i (x : Frm) => ∀ j u, x.cells[j]? = some u → W.cell? ⟨g, o + i * 6 + j, none⟩ = some u) len (fun i hil => by
      obtain ⟨cs, hc, ht⟩ := hi i (by omega)
      obtain ⟨x, rfl⟩ := open_frm ht
      obtain ⟨_, _, hat⟩ := World.cells?_some hc
      rw [addr_add] at hat
      refine ⟨x, fun j u hu => ?_⟩
      have hj := (List.getElem?_eq_some_iff.1 hu).1
      have := hat j (by simpa [Frm.cells] using hj)
      rw [addr_add] at this
      rw [this]; exact hu)
    exact ⟨ops, hol.symm, .inr ⟨g, o, rfl, fun i x hx => hops i x hx⟩⟩
end Go.Proofs.Ytffcambjdlkfbaa
