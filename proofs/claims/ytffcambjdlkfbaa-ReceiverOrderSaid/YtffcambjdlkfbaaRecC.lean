/- A row of strings of the call's own, and making one. -/
import Derived.Test.YtffcambjdlkfbaaRecB
namespace Go.Proofs.Ytffcambjdlkfbaa
open Go.RowKit

theorem Try.info9r : (Try.prog.info? 9).map (fun i => (i.zero, i.size, i.bytes)) = some (some (.string ByteArray.empty), 1, 16) := by kernel_rfl

/-- The strings from the head of block g on are c, in a row that may be written. -/
def TextsAt (w : World) (g cap : Nat) (c : List ByteArray) : Prop := w.ownsRow 0 9 1 (.slice (some ⟨g, 0, none⟩) c.length cap) c.length (c.map Value.string)

section
variable {w w' : World} {g cap : Nat} {c : List ByteArray}
theorem TextsAt.cell (h : TextsAt w g cap c) (i : Nat) (hi : i < c.length) : w.cell? ⟨g, i, none⟩ = some (.string (c.getD i ByteArray.empty)) := by
  rw [World.ownsRow.cellAt h i (by omega), List.getElem?_map, List.getD_eq_getElem?_getD, List.getElem?_eq_getElem hi]; rfl
theorem TextsAt.free (h : TextsAt w g cap c) (i : Nat) : w.frozen? ⟨g, i, none⟩ = false := World.ownsRow.frozenAt h i
theorem TextsAt.set (h : TextsAt w g cap c) (i : Nat) (x : ByteArray) : TextsAt (w.setCell ⟨g, i, none⟩ (.string x)) g cap (c.set i x) := by
  have := World.ownsRow.stored h i (.string x)
  unfold TextsAt
  rw [List.length_set, List.map_set]
  exact this.1
theorem TextsAt.lt (h : TextsAt w g cap c) : g < w.heap.size := (World.ownsRow.lt h g rfl).2
theorem TextsAt.keeps {S : List Nat} (h : TextsAt w g cap c) (k : Keeps S w w') (hg : g ∉ S) : TextsAt w' g cap c := k.owns h (fun j hj => by simp [Value.ownBlock] at hj; subst hj; exact hg)
end

theorem make_texts (u : World) (n : Nat) (hn : n ≤ 1000000) : (Instr.makeSlice 44 (.int .i64 n) (.int .i64 n)).run Try.prog u =
    .ok (.slice (some ⟨u.heap.size, 0, none⟩) n n) (u.alloc (.cells ((List.replicate n ByteArray.empty).map Value.string).toArray 9)) := by
  obtain ⟨i0, hi, hz0, hz1, hz2⟩ := info_parts Try.info9r
  have h := run_make (P := Try.prog) u 44 9 i0 (.string ByteArray.empty) Try.underlying44 hi hz0 .i64 .i64 (n : Int) (n : Int) (by omega) (Int.le_refl _) (by rw [hz2]; omega) (by omega)
  have e : madeCells (Value.string ByteArray.empty).cells n = ((List.replicate n ByteArray.empty).map Value.string).toArray := by
    rw [← Array.toList_inj, show (Value.string ByteArray.empty).cells = #[.string ByteArray.empty] from rfl, toList_madeCells_one]
    simp
  rw [Int.toNat_natCast, hz1, Nat.mul_one, e] at h
  exact h
end Go.Proofs.Ytffcambjdlkfbaa
