/- Contract of frame.Right. -/
import Derived.Test.YtffcambjdlkfbaaRecA
namespace Go.Proofs.Ytffcambjdlkfbaa
open Go.RowKit

set_option maxRecDepth 100000 in
set_option maxHeartbeats 2000000 in
theorem right98 (fk ses epo idx tot : Int) (s : ByteArray) (w : World) : Calls Try.prog 98 #[.agg #[.int .i64 fk, .int .i64 ses, .int .i64 epo, .int .i64 idx, .int .i64 tot, .string s]] w fun e w' => e = .returned (.bool (decide (Right fk ses epo idx tot s))) ∧ Keeps [] w w' := by
  generalize hb : decide (Right fk ses epo idx tot s) = b
  have hbi : b = true ↔ ((fk = 1 ∨ fk = 2) ∧ (0 ≤ ses ∧ ses < 4294967296) ∧ (0 ≤ epo ∧ epo < 4294967296) ∧ (0 ≤ idx ∧ idx < 65536) ∧ (0 ≤ tot ∧ tot < 65536) ∧ s.size ≤ 65000) := by rw [← hb, decide_eq_true_iff]; rfl
  have HM := Lib.hid hbi
  clear hb hbi
  go_enter Try.func98, Try.ntmps98
  go_wp2_with (first | (go_at_call 103; refine (within103 _ _ _).mono ?_; rintro e w' ⟨rfl, rfl⟩))
  all_goals
    go_ret
    exact ⟨ret_bool (by rw [Bool.eq_iff_iff, HM.out]; simp at *; omega), (Keeps.refl [] w).alloc _⟩
end Go.Proofs.Ytffcambjdlkfbaa
