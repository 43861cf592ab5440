/- Two receivers that are alike but for what they refused. -/
import Derived.Test.YtffcambjdlkfbaaRecW
namespace Go.Proofs.Ytffcambjdlkfbaa
open Go.RowKit

/-- The same receiver with other counts. -/
def Rcv.withD (r : Rcv) (d : List Int) : Rcv := ⟨r.ses, r.epo, r.l, r.c, d⟩

theorem withD_wrong (r : Rcv) (d : List Int) (f : Frm) : wrongE (r.withD d) f = wrongE r f := rfl
theorem withD_take (r : Rcv) (d : List Int) (f : Frm) : (r.withD d).take f = (r.take f).withD ((r.withD d).take f).d := by
  unfold Rcv.take
  rw [withD_wrong]
  split <;> rfl
theorem withD_good {r : Rcv} (h : r.Good) {d : List Int} (hd : d.length = 20) : (r.withD d).Good := ⟨h.ses, h.epo, h.len, h.low, h.high, h.none, h.most, hd⟩
theorem withD_drops (r : Rcv) (d : List Int) (f : Frm) (hd : d.length = 20) : ((r.withD d).take f).d.length = 20 := by
  unfold Rcv.take
  split
  · exact hd
  · simpa [Rcv.drop, Rcv.withD] using hd

/-- The blocks of one receiver. -/
structure OBlk where
  b : Nat
  m : Nat
  g : Nat
  cap : Nat
  k : Nat

def OBlk.all (β : OBlk) : List Nat := [β.b, β.m, β.g, β.k]

/-- The program's receiver at β. -/
def OneAt (w : World) (β : OBlk) (t : Nat) (r : Rcv) : Prop := RcvAt w β.b β.m β.g β.cap β.k t r

/-- Two receivers, alike but for their counts; nothing of w0 is turned. -/
structure Two (w0 : World) (β γ : OBlk) (n t u : Nat) (r : Rcv) (d : List Int) (w : World) : Prop where
  p : OneAt w β t r
  q : OneAt w γ u (r.withD d)
  good : r.Good
  dlen : d.length = 20
  ut : u ≤ t
  len : r.l.length = n
  ap : ∀ x ∈ β.all, ∀ y ∈ γ.all, x ≠ y
  newp : ∀ x ∈ β.all, w0.heap.size ≤ x
  newq : ∀ x ∈ γ.all, w0.heap.size ≤ x
  k : Keeps [] w0 w

section
variable {w0 w w' : World} {β γ : OBlk} {n t u : Nat} {r : Rcv} {d : List Int}
theorem OneAt.quiet (h : OneAt w β t r) (kk : Keeps [] w w') : OneAt w' β t r := RcvAt.quiet h kk
theorem OneAt.far {S : List Nat} (h : OneAt w β t r) (kk : Keeps S w w') (hs : ∀ x ∈ β.all, x ∉ S) : OneAt w' β t r :=
  RcvAt.keeps h kk (hs _ (by simp [OBlk.all])) (hs _ (by simp [OBlk.all])) (hs _ (by simp [OBlk.all])) (hs _ (by simp [OBlk.all]))
theorem OneAt.lts (h : OneAt w β t r) : ∀ x ∈ β.all, x < w.heap.size := by
  obtain ⟨h1, h2, h3, h4⟩ := RcvAt.lt h
  intro x hx
  simp only [OBlk.all, List.mem_cons, List.not_mem_nil, or_false] at hx
  rcases hx with rfl | rfl | rfl | rfl <;> assumption
theorem Two.keeps (h : Two w0 β γ n t u r d w) (kk : Keeps [] w w') : Two w0 β γ n t u r d w' := ⟨h.p.quiet kk, h.q.quiet kk, h.good, h.dlen, h.ut, h.len, h.ap, h.newp, h.newq, h.k.trans kk⟩
theorem Two.drew (h : Two w0 β γ n t u r d w) : Two w0 β γ n t u r d w.drew := h.keeps (Keeps.refl [] w).drew
theorem foot_in {β : OBlk} {x : Nat} (hx : x ∈ [β.m, β.g, β.k]) : x ∈ β.all := by
  simp only [OBlk.all, List.mem_cons, List.not_mem_nil, or_false] at hx ⊢; omega
theorem Two.q1 {w1 : World} (h : Two w0 β γ n t u r d w) (k1 : Keeps [β.m, β.g, β.k] w w1) : OneAt w1 γ u (r.withD d) :=
  h.q.far k1 (fun _ hx hm => h.ap _ (foot_in hm) _ hx rfl)
theorem take_len (r : Rcv) (f : Frm) : (r.take f).l.length = r.l.length := by
  unfold Rcv.take; split
  · simp [Rcv.put]
  · rfl
/-- Behind both Takes. -/
theorem Two.took {w1 w2 : World} {f : Frm} (h : Two w0 β γ n t u r d w) (p1 : OneAt w1 β (t + 1) (r.take f)) (k1 : Keeps [β.m, β.g, β.k] w w1)
    (q2 : OneAt w2 γ (u + 1) ((r.withD d).take f)) (k2 : Keeps [γ.m, γ.g, γ.k] w1 w2) : Two w0 β γ n (t + 1) (u + 1) (r.take f) ((r.withD d).take f).d w2 :=
  ⟨p1.far k2 (fun _ hx hm => h.ap _ hx _ (foot_in hm) rfl), by rw [← withD_take]; exact q2, take_good h.good f, withD_drops r d f h.dlen, by have := h.ut; omega, (take_len r f).trans h.len, h.ap, h.newp, h.newq,
    keeps_new (keeps_new h.k k1 (fun x hx => h.newp x (foot_in hx))) k2 (fun x hx => h.newq x (foot_in hx))⟩
/-- Behind Resume: the second is a new one. -/
theorem Two.resumed {w1 : World} {ζ : OBlk} (h : Two w0 β γ n t u r d w) (q1 : OneAt w1 ζ 0 (r.withD zeros20)) (hz : ∀ x ∈ ζ.all, w.heap.size ≤ x) (k1 : Keeps [] w w1) : Two w0 β ζ n t 0 r zeros20 w1 := by
  have h1 := h.p.lts
  have h2 := h.k.size
  refine ⟨h.p.quiet k1, q1, h.good, by simp, by omega, h.len, fun x hx y hy => ?_, h.newp, fun x hx => Nat.le_trans h2 (hz x hx), h.k.trans k1⟩
  have := h1 x hx
  have := hz y hy
  omega
end
end Go.Proofs.Ytffcambjdlkfbaa
