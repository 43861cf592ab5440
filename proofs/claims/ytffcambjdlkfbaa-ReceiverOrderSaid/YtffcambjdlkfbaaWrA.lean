/- Contracts of a strings.Builder that lies in a varint.Writer: copyCheck, WriteByte. -/
import Derived.Test.YtffcambjdlkfbaaVarF
import Derived.Lib.Builder
namespace Go.Proofs.Ytffcambjdlkfbaa
open Go.RowKit

abbrev u8s (bs : List UInt8) : List Value := bs.map fun x => Value.int .u8 x.toNat

/-- A writer at block b that holds the bytes bs: its row of bytes is the call's own (from B on), and not its own block. -/
structure WrAt (w : World) (B b : Nat) (bs : List UInt8) : Prop where
  ge : B ≤ b
  row : ∃ p v, RowAt w b 122 [p, v] ∧ (p = .pointer none ∨ p = ptr b) ∧ w.ownsRow B 5 1 v bs.length (u8s bs) ∧ v.ownBlock ≠ some b

theorem Try.size120 : (Try.prog.info? 120).map (·.size) = some 2 := by kernel_rfl

theorem RowAt.shape {w : World} {g : Nat} {T : TypeId} {xs : List Value} (h : RowAt w g T xs) : w.shape? g = some (T, xs.length) := by
  simp [World.shape?, show w.heap[g]? = _ from h]

set_option maxRecDepth 100000 in
theorem copyCheck_used (b : Nat) (w : World) (h0 : w.cell? ⟨b, 0, none⟩ = some (ptr b)) : Calls Try.prog 104 #[ptr b] w fun e w' => e = .returned (.tuple #[]) ∧ w = w' := by
  obtain ⟨j, hj, hjs⟩ := Option.map_eq_some_iff.1 Try.size120
  go_enter Try.func104, Try.ntmps104
  go_wp2_with fail
  rw [Lib.run_neq_ptr_same w _ Try.underlying118 hj]
  go_wp2_with fail
  go_end0
  exact ⟨rfl, rfl⟩

set_option maxRecDepth 100000 in
theorem copyCheck_fresh (b : Nat) (v : Value) (w : World) (h : RowAt w b 122 [.pointer none, v]) :
    Calls Try.prog 104 #[ptr b] w fun e w' => e = .returned (.tuple #[]) ∧ w' = w.setCell ⟨b, 0, none⟩ (ptr b) := by
  obtain ⟨j, hj, hjs⟩ := Option.map_eq_some_iff.1 Try.size120
  have h0 : w.cell? ⟨b, 0, none⟩ = some (.pointer none) := by rw [h.cell]; rfl
  have hfz := h.free 0
  have hsh : w.shape? b = some (122, 2) := h.shape
  clear h
  go_enter Try.func104, Try.ntmps104
  go_wp2_with fail
  rw [Lib.run_to_unsafe w ⟨b, 0, none⟩ Try.underlying118 Try.underlying146 hj (by rw [hjs]; decide) hsh (Nat.zero_lt_succ 1)]
  simp only [Result.andThen]
  rw [Oper.upon_value]
  go_wp2_with fail
  rw [run_callFunc_extern Try.func106 (by kernel_rfl) (by kernel_rfl) (by kernel_rfl) (e := Extern.AbiNoEscape.same) (by kernel_rfl)]
  rw [Lib.run_noEscape]
  simp only [Result.andThen]
  rw [Oper.upon_value]
  go_wp2_with fail
  rw [Lib.run_from_unsafe w ⟨b, 0, none⟩ Try.underlying146 Try.underlying118 hj hsh (by kernel_rfl)]
  simp only [Result.andThen]
  rw [Oper.upon_value]
  go_wp2_with fail
  go_end0
  exact ⟨rfl, rfl⟩
end Go.Proofs.Ytffcambjdlkfbaa
