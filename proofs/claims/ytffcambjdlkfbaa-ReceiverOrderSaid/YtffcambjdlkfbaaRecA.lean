/- Contracts of frame.Right, of its reference, and of what may be a receiver (signpostref14.May). -/
import Derived.Test.YtffcambjdlkfbaaNumB
namespace Go.Proofs.Ytffcambjdlkfbaa
open Go.RowKit

/-- Is a frame right? -/
def Right (fk ses epo idx tot : Int) (s : ByteArray) : Prop :=
  (fk = 1 ∨ fk = 2) ∧ (0 ≤ ses ∧ ses < 4294967296) ∧ (0 ≤ epo ∧ epo < 4294967296) ∧ (0 ≤ idx ∧ idx < 65536) ∧ (0 ≤ tot ∧ tot < 65536) ∧ s.size ≤ 65000
instance (fk ses epo idx tot : Int) (s : ByteArray) : Decidable (Right fk ses epo idx tot s) := by unfold Right; infer_instance

theorem within103 (x n : Int) (w : World) : Calls Try.prog 103 #[.int .i64 x, .int .i64 n] w fun e w' => e = .returned (.bool (decide (0 ≤ x ∧ x < n))) ∧ w = w' := by
  by_cases h : 0 ≤ x
  · have t : decide ((0 : Int) ≤ x) = true := decide_eq_true h
    go_enter Try.func103, Try.ntmps103
    go_wp2_with fail
    go_ret
    exact ⟨ret_bool (by simp [h]), rfl⟩
  · have t : decide ((0 : Int) ≤ x) = false := decide_eq_false h
    go_enter Try.func103, Try.ntmps103
    go_wp2_with fail
    go_ret
    exact ⟨ret_bool (by simp), rfl⟩

def May14 (ses epo tot : Int) : Prop := (0 ≤ ses ∧ ses < 4294967296) ∧ (0 ≤ epo ∧ epo < 4294967296) ∧ 1 ≤ tot ∧ tot ≤ 256
instance (ses epo tot : Int) : Decidable (May14 ses epo tot) := by unfold May14; infer_instance

theorem may48 (ses epo tot : Int) (w : World) : Calls Try.prog 48 #[.int .i64 ses, .int .i64 epo, .int .i64 tot] w fun e w' => e = .returned (.bool (decide (May14 ses epo tot))) ∧ w = w' := by
  generalize hb : decide (May14 ses epo tot) = b
  have hbi : b = true ↔ ((0 ≤ ses ∧ ses < 4294967296) ∧ (0 ≤ epo ∧ epo < 4294967296) ∧ 1 ≤ tot ∧ tot ≤ 256) := by rw [← hb, decide_eq_true_iff]; rfl
  have HM := Lib.hid hbi
  clear hb hbi
  go_enter Try.func48, Try.ntmps48
  go_wp2_with fail
  all_goals
    go_ret
    exact ⟨ret_bool (by rw [Bool.eq_iff_iff, HM.out]; simp; omega), rfl⟩

set_option maxRecDepth 100000 in
set_option maxHeartbeats 2000000 in
theorem rright99 (fk ses epo idx tot : Int) (s : ByteArray) (w : World) : Calls Try.prog 99 #[.agg #[.int .i64 fk, .int .i64 ses, .int .i64 epo, .int .i64 idx, .int .i64 tot, .string s]] w fun e w' => e = .returned (.bool (decide (Right fk ses epo idx tot s))) ∧ Keeps [] w w' := by
  generalize hb : decide (Right fk ses epo idx tot s) = b
  have hbi : b = true ↔ ((fk = 1 ∨ fk = 2) ∧ (0 ≤ ses ∧ ses < 4294967296) ∧ (0 ≤ epo ∧ epo < 4294967296) ∧ (0 ≤ idx ∧ idx < 65536) ∧ (0 ≤ tot ∧ tot < 65536) ∧ s.size ≤ 65000) := by rw [← hb, decide_eq_true_iff]; rfl
  have HM := Lib.hid hbi
  clear hb hbi
  go_enter Try.func99, Try.ntmps99
  go_wp2_with fail
  all_goals
    go_ret
    exact ⟨ret_bool (by rw [Bool.eq_iff_iff, HM.out]; simp; omega), (Keeps.refl [] w).alloc _⟩
end Go.Proofs.Ytffcambjdlkfbaa
