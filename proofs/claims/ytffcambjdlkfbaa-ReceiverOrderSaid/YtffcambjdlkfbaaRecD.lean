/- Where a receiver lies (package receiver, and the reference of layer 14), and the contracts of wrong. -/
import Derived.Test.YtffcambjdlkfbaaRecPl
import Derived.Maps.OwnOps
import Derived.Maps.Views
namespace Go.Proofs.Ytffcambjdlkfbaa
open Go.RowKit Go.Maps

/-- A frame. -/
structure Frm where
  fk : Int
  ses : Int
  epo : Int
  idx : Int
  tot : Int
  s : ByteArray

def Frm.cells (f : Frm) : List Value := [.int .i64 f.fk, .int .i64 f.ses, .int .i64 f.epo, .int .i64 f.idx, .int .i64 f.tot, .string f.s]
def Frm.val (f : Frm) : Value := .agg #[.int .i64 f.fk, .int .i64 f.ses, .int .i64 f.epo, .int .i64 f.idx, .int .i64 f.tot, .string f.s]
def Frm.Right (f : Frm) : Prop := Ytffcambjdlkfbaa.Right f.fk f.ses f.epo f.idx f.tot f.s
instance (f : Frm) : Decidable f.Right := by unfold Frm.Right; infer_instance

/-- What is wrong with a frame. -/
def wrongE (r : Rcv) (f : Frm) : Int :=
  if f.fk ≠ 1 then 1
  else if ¬ f.Right then 1
  else if f.ses ≠ (r.ses : Int) then 12
  else if f.epo ≠ (r.epo : Int) then 13
  else if f.tot ≠ (r.l.length : Int) then 14
  else if f.tot ≤ f.idx then 14
  else if 1000 < f.s.size then 7
  else if at' r.l f.idx.toNat = true then 9
  else 0

/-- A receiver's number of refusals, one more. -/
def Rcv.drop (r : Rcv) (e : Int) : Rcv := ⟨r.ses, r.epo, r.l, r.c, r.d.set e.toNat (r.d.getD e.toNat 0 + 1)⟩

/-- Behind Take. -/
def Rcv.take (r : Rcv) (f : Frm) : Rcv := if wrongE r f = 0 then r.put f.idx.toNat f.s else r.drop (wrongE r f)

/-- A map of counts at block k: at most t of them, none above t. -/
def DropsAt (w : World) (k t : Nat) (d : List Int) : Prop :=
  d.length = 20 ∧ (∀ i : Nat, 0 ≤ d.getD i 0 ∧ d.getD i 0 ≤ (t : Int)) ∧ ∃ D : DataW Unit, w.ownsMap Try.prog 25 (plainElem Try.prog 3) k t D ∧ ∀ i : Nat, i < 20 → D.atKey (.int .i64 (i : Int)) (.lit (.int .i64 0)) = .lit (.int .i64 (d.getD i 0))

/-- The program's receiver at block b; t frames have come. -/
structure RcvAt (w : World) (b m g cap k t : Nat) (r : Rcv) : Prop where
  row : RowAt w b 113 [.int .i64 r.ses, .int .i64 r.epo, ptr m, .slice (some ⟨g, 0, none⟩) r.l.length cap, .map (some k)]
  map : MapAt w m r.l
  txt : TextsAt w g cap r.c
  len : r.c.length = r.l.length
  dr : DropsAt w k t r.d

/-- Cells that are whole numbers, of the call's own. -/
def NumsAt (w : World) (g cap : Nat) (d : List Int) : Prop := w.ownsRow 0 3 1 (.slice (some ⟨g, 0, none⟩) d.length cap) d.length (d.map (Value.int .i64))

/-- The reference's receiver at block b. -/
structure RefAt (w : World) (b gi ci gc cc gd cd t : Nat) (r : Rcv) : Prop where
  row : RowAt w b 84 [.int .i64 r.ses, .int .i64 r.epo, .slice (some ⟨gi, 0, none⟩) r.l.length ci, .slice (some ⟨gc, 0, none⟩) r.l.length cc, .slice (some ⟨gd, 0, none⟩) 20 cd]
  bools : BoolsAt w gi ci r.l
  txt : TextsAt w gc cc r.c
  len : r.c.length = r.l.length
  nums : NumsAt w gd cd r.d
  dlen : r.d.length = 20
  dle : ∀ i : Nat, 0 ≤ r.d.getD i 0 ∧ r.d.getD i 0 ≤ (t : Int)

section
variable {w w' : World} {b m g cap k t gi ci gc cc gd cd : Nat} {r : Rcv}
theorem RcvAt.c0 (h : RcvAt w b m g cap k t r) : w.cell? ⟨b, 0, none⟩ = some (.int .i64 r.ses) := by rw [RowAt.cell h.row]; rfl
theorem RcvAt.c1 (h : RcvAt w b m g cap k t r) : w.cell? ⟨b, 1, none⟩ = some (.int .i64 r.epo) := by rw [RowAt.cell h.row]; rfl
theorem RcvAt.c2 (h : RcvAt w b m g cap k t r) : w.cell? ⟨b, 2, none⟩ = some (ptr m) := by rw [RowAt.cell h.row]; rfl
theorem RcvAt.c3 (h : RcvAt w b m g cap k t r) : w.cell? ⟨b, 3, none⟩ = some (.slice (some ⟨g, 0, none⟩) r.l.length cap) := by rw [RowAt.cell h.row]; rfl
theorem RcvAt.c4 (h : RcvAt w b m g cap k t r) : w.cell? ⟨b, 4, none⟩ = some (.map (some k)) := by rw [RowAt.cell h.row]; rfl
theorem RefAt.c0 (h : RefAt w b gi ci gc cc gd cd t r) : w.cell? ⟨b, 0, none⟩ = some (.int .i64 r.ses) := by rw [RowAt.cell h.row]; rfl
theorem RefAt.c1 (h : RefAt w b gi ci gc cc gd cd t r) : w.cell? ⟨b, 1, none⟩ = some (.int .i64 r.epo) := by rw [RowAt.cell h.row]; rfl
theorem RefAt.c2 (h : RefAt w b gi ci gc cc gd cd t r) : w.cell? ⟨b, 2, none⟩ = some (.slice (some ⟨gi, 0, none⟩) r.l.length ci) := by rw [RowAt.cell h.row]; rfl
theorem RefAt.c3 (h : RefAt w b gi ci gc cc gd cd t r) : w.cell? ⟨b, 3, none⟩ = some (.slice (some ⟨gc, 0, none⟩) r.l.length cc) := by rw [RowAt.cell h.row]; rfl
theorem RefAt.c4 (h : RefAt w b gi ci gc cc gd cd t r) : w.cell? ⟨b, 4, none⟩ = some (.slice (some ⟨gd, 0, none⟩) 20 cd) := by rw [RowAt.cell h.row]; rfl
end

theorem ownsMap_keeps {S : List Nat} {w w' : World} {k t : Nat} {D : DataW Unit} {T : TypeId} {R : Value → Option (DataW Unit × List MemPlace)} (h : w.ownsMap Try.prog T R k t D) (kk : Keeps S w w') (hk : k ∉ S) : w'.ownsMap Try.prog T R k t D := by
  obtain ⟨es, clock, hb, F, hs, hD⟩ := h
  exact ⟨es, clock, kk.heap hk hb, F, hs, hD⟩

section
variable {S : List Nat} {w w' : World} {b m g cap k t gi ci gc cc gd cd : Nat} {d : List Int} {r : Rcv}
theorem DropsAt.keeps (h : DropsAt w k t d) (kk : Keeps S w w') (hk : k ∉ S) : DropsAt w' k t d := by
  obtain ⟨h1, h2, D, hD, h3⟩ := h
  exact ⟨h1, h2, D, ownsMap_keeps hD kk hk, h3⟩
theorem DropsAt.lt (h : DropsAt w k t d) : k < w.heap.size := by
  obtain ⟨h1, h2, D, hD, h3⟩ := h
  exact hD.lt
theorem DropsAt.more (h : DropsAt w k t d) {t' : Nat} (ht : t ≤ t') : DropsAt w k t' d := by
  obtain ⟨h1, h2, D, hD, h3⟩ := h
  exact ⟨h1, fun i => ⟨(h2 i).1, by have := (h2 i).2; omega⟩, D, hD.mono ht, h3⟩

theorem RcvAt.keeps (h : RcvAt w b m g cap k t r) (kk : Keeps S w w') (hb : b ∉ S) (hm : m ∉ S) (hg : g ∉ S) (hk : k ∉ S) : RcvAt w' b m g cap k t r :=
  ⟨h.row.keeps kk hb, h.map.keeps kk hm, h.txt.keeps kk hg, h.len, h.dr.keeps kk hk⟩
theorem RcvAt.quiet (h : RcvAt w b m g cap k t r) (kk : Keeps [] w w') : RcvAt w' b m g cap k t r := h.keeps kk (by simp) (by simp) (by simp) (by simp)
theorem RcvAt.drew (h : RcvAt w b m g cap k t r) : RcvAt w.drew b m g cap k t r := h.quiet (Keeps.refl [] w).drew

theorem NumsAt.keeps (h : NumsAt w g cap d) (kk : Keeps S w w') (hg : g ∉ S) : NumsAt w' g cap d := kk.owns h (fun j hj => by simp [Value.ownBlock] at hj; subst hj; exact hg)
theorem NumsAt.cell (h : NumsAt w g cap d) (i : Nat) (hi : i < d.length) : w.cell? ⟨g, i, none⟩ = some (.int .i64 (d.getD i 0)) := by
  rw [World.ownsRow.cellAt h i (by omega), List.getElem?_map, List.getD_eq_getElem?_getD, List.getElem?_eq_getElem hi]; rfl
theorem NumsAt.free (h : NumsAt w g cap d) (i : Nat) : w.frozen? ⟨g, i, none⟩ = false := World.ownsRow.frozenAt h i
theorem NumsAt.set (h : NumsAt w g cap d) (i : Nat) (x : Int) : NumsAt (w.setCell ⟨g, i, none⟩ (.int .i64 x)) g cap (d.set i x) := by
  have := World.ownsRow.stored h i (.int .i64 x)
  unfold NumsAt
  rw [List.length_set, List.map_set]
  exact this.1
theorem NumsAt.lt (h : NumsAt w g cap d) : g < w.heap.size := (World.ownsRow.lt h g rfl).2

theorem RefAt.keeps (h : RefAt w b gi ci gc cc gd cd t r) (kk : Keeps S w w') (hb : b ∉ S) (h1 : gi ∉ S) (h2 : gc ∉ S) (h3 : gd ∉ S) : RefAt w' b gi ci gc cc gd cd t r :=
  ⟨h.row.keeps kk hb, h.bools.keeps kk h1, h.txt.keeps kk h2, h.len, h.nums.keeps kk h3, h.dlen, h.dle⟩
theorem RefAt.quiet (h : RefAt w b gi ci gc cc gd cd t r) (kk : Keeps [] w w') : RefAt w' b gi ci gc cc gd cd t r := h.keeps kk (by simp) (by simp) (by simp) (by simp)
theorem RefAt.drew (h : RefAt w b gi ci gc cc gd cd t r) : RefAt w.drew b gi ci gc cc gd cd t r := h.quiet (Keeps.refl [] w).drew
end

end Go.Proofs.Ytffcambjdlkfbaa
