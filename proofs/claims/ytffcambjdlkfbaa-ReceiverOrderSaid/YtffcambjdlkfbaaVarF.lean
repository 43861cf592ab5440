/- Contracts of small (package receiver, and the reference of layer 14): a number that is no greater than 2^32. -/
import Derived.Test.YtffcambjdlkfbaaVarE
namespace Go.Proofs.Ytffcambjdlkfbaa
open Go.RowKit

theorem small71 (n : Nat) (w : World) : Calls Try.prog 71 #[.int .u64 n] w fun en w' => en = .returned (.int .i64 (min n 4294967296 : Nat)) ∧ w = w' := by
  by_cases h : n ≤ 4294967296
  · have e : min n 4294967296 = n := by omega
    rw [e]
    go_enter Try.func71, Try.ntmps71
    go_wp2_with fail
    go_ret
    exact ⟨by first | rfl | (congr 2; omega), rfl⟩
  · have e : min n 4294967296 = 4294967296 := by omega
    rw [e]
    go_enter Try.func71, Try.ntmps71
    go_wp2_with fail
    go_ret
    exact ⟨by first | rfl | (congr 2; omega), rfl⟩

theorem small75 (n : Nat) (w : World) : Calls Try.prog 75 #[.int .u64 n] w fun en w' => en = .returned (.int .i64 (min n 4294967296 : Nat)) ∧ w = w' := by
  by_cases h : n ≤ 4294967296
  · have e : min n 4294967296 = n := by omega
    have t : decide ((4294967296 : Int) < (n : Int)) = false := decide_eq_false (by omega)
    rw [e]
    go_enter Try.func75, Try.ntmps75
    go_wp2_with fail
    go_ret
    exact ⟨rfl, rfl⟩
  · have e : min n 4294967296 = 4294967296 := by omega
    have t : decide ((4294967296 : Int) < (n : Int)) = true := decide_eq_true (by omega)
    rw [e]
    go_enter Try.func75, Try.ntmps75
    go_wp2_with fail
    go_ret
    exact ⟨rfl, rfl⟩
end Go.Proofs.Ytffcambjdlkfbaa
