/- A receiver and its reference side by side; frames that came in. -/
import Derived.Test.YtffcambjdlkfbaaRecS
namespace Go.Proofs.Ytffcambjdlkfbaa
open Go.RowKit

/-- The blocks of a receiver, and of its reference, with the rows' capacities. -/
structure PBlk where
  b : Nat
  m : Nat
  g : Nat
  cap : Nat
  k : Nat
  rb : Nat
  gi : Nat
  ci : Nat
  gc : Nat
  cc : Nat
  gd : Nat
  cd : Nat

/-- Both read as r, t frames have come; nothing of w0 is turned. -/
structure Pair (w0 : World) (β : PBlk) (n t : Nat) (r : Rcv) (w : World) : Prop where
  p : RcvAt w β.b β.m β.g β.cap β.k t r
  q : RefAt w β.rb β.gi β.ci β.gc β.cc β.gd β.cd t r
  good : r.Good
  len : r.l.length = n
  ap : ∀ x ∈ [β.b, β.m, β.g, β.k], ∀ y ∈ [β.rb, β.gi, β.gc, β.gd], x ≠ y
  newp : w0.heap.size ≤ β.b ∧ w0.heap.size ≤ β.m ∧ w0.heap.size ≤ β.g ∧ w0.heap.size ≤ β.k
  newq : w0.heap.size ≤ β.rb ∧ w0.heap.size ≤ β.gi ∧ w0.heap.size ≤ β.gc ∧ w0.heap.size ≤ β.gd
  k : Keeps [] w0 w

section
variable {w0 w w' : World} {β : PBlk} {n t : Nat} {r : Rcv}
theorem Pair.keeps (h : Pair w0 β n t r w) (kk : Keeps [] w w') : Pair w0 β n t r w' := ⟨h.p.quiet kk, h.q.quiet kk, h.good, h.len, h.ap, h.newp, h.newq, h.k.trans kk⟩
theorem Pair.drew (h : Pair w0 β n t r w) : Pair w0 β n t r w.drew := h.keeps (Keeps.refl [] w).drew
/-- Behind both Takes. -/
theorem Pair.took {w1 w2 : World} {f : Frm} (h : Pair w0 β n t r w) (p1 : RcvAt w1 β.b β.m β.g β.cap β.k (t + 1) (r.take f)) (k1 : Keeps [β.m, β.g, β.k] w w1)
    (q2 : RefAt w2 β.rb β.gi β.ci β.gc β.cc β.gd β.cd (t + 1) (r.take f)) (k2 : Keeps [β.gi, β.gc, β.gd] w1 w2) : Pair w0 β n (t + 1) (r.take f) w2 := by
  have hl : (r.take f).l.length = r.l.length := by
    unfold Rcv.take; split
    · simp [Rcv.put]
    · rfl
  have hn := h.newp
  have hm := h.newq
  refine ⟨p1.keeps k2 ?_ ?_ ?_ ?_, q2, take_good h.good f, hl.trans h.len, h.ap, h.newp, h.newq, keeps_new (keeps_new h.k k1 (by simp; omega)) k2 (by simp; omega)⟩
  all_goals
    intro hx
    simp only [List.mem_cons, List.not_mem_nil, or_false] at hx
    rcases hx with hx | hx | hx
    all_goals exact h.ap _ (by simp) _ (by simp) hx
theorem Pair.r1 {w1 : World} (h : Pair w0 β n t r w) (k1 : Keeps [β.m, β.g, β.k] w w1) : RefAt w1 β.rb β.gi β.ci β.gc β.cc β.gd β.cd t r := by
  refine h.q.keeps k1 ?_ ?_ ?_ ?_
  all_goals
    intro hx
    simp only [List.mem_cons, List.not_mem_nil, or_false] at hx
    rcases hx with hx | hx | hx
    all_goals exact h.ap _ (by simp) _ (by simp) hx.symm
theorem Pair.lts (h : Pair w0 β n t r w) : ∀ x ∈ [β.b, β.m, β.g, β.k, β.rb, β.gi, β.gc, β.gd], x < w.heap.size := by
  obtain ⟨h1, h2, h3, h4⟩ := h.p.lt
  obtain ⟨h5, h6, h7, h8⟩ := h.q.lt
  intro x hx
  simp only [List.mem_cons, List.not_mem_nil, or_false] at hx
  rcases hx with rfl | rfl | rfl | rfl | rfl | rfl | rfl | rfl <;> assumption
end

/-- The frames from place o of block g on. -/
def FrmsAt (w : World) (g o : Nat) (fs : List Frm) : Prop := ∀ i x, fs[i]? = some x → ∀ j u, x.cells[j]? = some u → w.cell? ⟨g, o + i * 6 + j, none⟩ = some u

/-- What the walk is told of frames that came in: there are none, or their cells are these. -/
def IsFrms (w : World) (a : Option Addr) (fs : List Frm) : Prop := fs = [] ∨ ∃ g o, a = some ⟨g, o, none⟩ ∧ FrmsAt w g o fs

abbrev frmRow (f : Frm) : Obj := .cells #[.int .i64 f.fk, .int .i64 f.ses, .int .i64 f.epo, .int .i64 f.idx, .int .i64 f.tot, .string f.s] 54

/-- The six cells of a frame's block, one by one. -/
theorem FrmAt.six {w : World} {fb : Nat} {f : Frm} (h : FrmAt w fb f) : w.cell? ⟨fb, 0, none⟩ = some (.int .i64 f.fk) ∧ w.cell? ⟨fb, 1, none⟩ = some (.int .i64 f.ses) ∧ w.cell? ⟨fb, 2, none⟩ = some (.int .i64 f.epo) ∧ w.cell? ⟨fb, 3, none⟩ = some (.int .i64 f.idx) ∧ w.cell? ⟨fb, 4, none⟩ = some (.int .i64 f.tot) ∧ w.cell? ⟨fb, 5, none⟩ = some (.string f.s) :=
  ⟨h.f0, h.f1, h.f2, h.f3, h.f4, h.f5⟩
theorem FrmAt.keeps {S : List Nat} {w w' : World} {fb : Nat} {f : Frm} (h : FrmAt w fb f) (k : Keeps S w w') (hn : fb ∉ S) : FrmAt w' fb f := RowAt.keeps h k hn
end Go.Proofs.Ytffcambjdlkfbaa
