/- Contracts of the map of chunks (package sack): Count, over any map of 1 to 256 chunks. No further condition. -/
import Derived.Test.YtffcambjdlkfbaaSackB
import Derived.Test.YtffcambjdlkfbaaPop
import Derived.Laws.Bits128
import Derived.LoopN
namespace Go.Proofs.Ytffcambjdlkfbaa
open Go.RowKit

theorem wrapU (n : Nat) (h : n < 18446744073709551616) : IntKind.u64.wrap (n : Int) = n := by rw [IntKind.wrap_u64]; omega

theorem low127 (y p : Nat) (h : y < 9223372036854775808) (hp : y % 128 = p) : bits BinOp.and IntKind.i64 (wrap64 (y : Int)) 127 = (p : Int) := by
  rw [i64_and127, IntWalk.wrap64_in _ ⟨by omega, by omega⟩, ← hp]
  simp

theorem ones_any (x : Nat) (hx : x < two64) (w : World) : Calls Try.prog 59 #[.int .u64 x] w fun e w' => e = .returned (.int .i64 (pop64 x)) ∧ w = w' := by
  unfold two64 at hx
  obtain ⟨x1, x2, x3, y1, y2, y3, e1, e2, e3, e4, e5, e6, b1, b2, b3, b4⟩ := ones_eq x hx
  have l1 : x / 2 ≤ x := Nat.div_le_self _ _
  have l2 : x1 / 4 ≤ x1 := Nat.div_le_self _ _
  have a1 : IntKind.u64.wrap (bits BinOp.and IntKind.u64 ((x : Int) / 2) 6148914691236517205 + bits BinOp.and IntKind.u64 (x : Int) 6148914691236517205) = (x1 : Int) := by
    have t1 := u64_and_nat (x / 2) M0 (by omega) (by unfold M0; omega)
    have t2 := u64_and_nat x M0 hx (by unfold M0; omega)
    rw [show (((x / 2 : Nat) : Int)) = (x : Int) / 2 from by simp] at t1
    have m0 : ((M0 : Nat) : Int) = 6148914691236517205 := rfl
    rw [m0] at t1 t2
    rw [t1, t2, ← Int.natCast_add, ← e1, wrapU _ b1]
  have a2 : IntKind.u64.wrap (bits BinOp.and IntKind.u64 ((x1 : Int) / 4) 3689348814741910323 + bits BinOp.and IntKind.u64 (x1 : Int) 3689348814741910323) = (x2 : Int) := by
    have t1 := u64_and_nat (x1 / 4) M1 (by omega) (by unfold M1; omega)
    have t2 := u64_and_nat x1 M1 b1 (by unfold M1; omega)
    rw [show (((x1 / 4 : Nat) : Int)) = (x1 : Int) / 4 from by simp] at t1
    have m0 : ((M1 : Nat) : Int) = 3689348814741910323 := rfl
    rw [m0] at t1 t2
    rw [t1, t2, ← Int.natCast_add, ← e2, wrapU _ (by omega)]
  have a3 : bits BinOp.and IntKind.u64 (IntKind.u64.wrap ((x2 : Int) / 16 + (x2 : Int))) 1085102592571150095 = (x3 : Int) := by
    rw [show ((x2 : Int) / 16 + (x2 : Int)) = ((x2 / 16 + x2 : Nat) : Int) from by simp, wrapU _ b2]
    have t1 := u64_and_nat (x2 / 16 + x2) M2 b2 (by unfold M2; omega)
    have m0 : ((M2 : Nat) : Int) = 1085102592571150095 := rfl
    rw [m0] at t1
    rw [t1, e3]
  have a4 : IntKind.u64.wrap ((x3 : Int) + (x3 : Int) / 256) = (y1 : Int) := by
    rw [show ((x3 : Int) + (x3 : Int) / 256) = ((x3 + x3 / 256 : Nat) : Int) from by simp, ← e4, wrapU _ (by omega)]
  have a5 : IntKind.u64.wrap ((y1 : Int) + (y1 : Int) / 65536) = (y2 : Int) := by
    rw [show ((y1 : Int) + (y1 : Int) / 65536) = ((y1 + y1 / 65536 : Nat) : Int) from by simp, ← e5, wrapU _ (by omega)]
  have a6 : IntKind.u64.wrap ((y2 : Int) + (y2 : Int) / 4294967296) = (y3 : Int) := by
    rw [show ((y2 : Int) + (y2 : Int) / 4294967296) = ((y2 + y2 / 4294967296 : Nat) : Int) from by simp, ← e6, wrapU _ (by omega)]
  have a7 := low127 y3 _ b3 b4
  clear e1 e2 e3 e4 e5 e6 l1 l2 b1 b2 b3 b4 hx
  go_enter Try.func59, Try.ntmps59
  go_wp2
  go_ret
  exact ⟨rfl, rfl⟩

theorem pop64_le (x : Nat) : pop64 x ≤ 64 := by
  unfold pop64
  have := List.length_filter_le (fun k => x.testBit k) (List.range 64)
  simpa using this

/-- Count. -/
theorem count_any (b : Nat) (l : List Bool) (w : World) (hm : MapAt w b l) : Calls Try.prog 17 #[ptr b] w fun e w' => e = .returned (.int .i64 (countL l)) ∧ w = w' := by
  obtain ⟨h1, h2, X, hX, hh⟩ := hm
  have hsum := count_words l X h2 hX.bits
  have c0 := map_cell hh 0 (by omega)
  have c1 := map_cell hh 1 (by omega)
  have c2 := map_cell hh 2 (by omega)
  have c3 := map_cell hh 3 (by omega)
  simp only [Nat.add_zero, Nat.reduceAdd] at c0 c1 c2 c3
  have l0 := hX.lt 0
  have l1 := hX.lt 1
  have l2 := hX.lt 2
  have l3 := hX.lt 3
  clear hX hh h1 h2
  have p0 := pop64_le (X 0)
  have p1 := pop64_le (X 1)
  have p2 := pop64_le (X 2)
  have p3 := pop64_le (X 3)
  generalize X 0 = x0 at *
  generalize X 1 = x1 at *
  generalize X 2 = x2 at *
  generalize X 3 = x3 at *
  have t0 := ones_any x0 l0
  have t1 := ones_any x1 l1
  have t2 := ones_any x2 l2
  have t3 := ones_any x3 l3
  have T0 := Lib.hid t0; clear t0
  have T1 := Lib.hid t1; clear t1
  have T2 := Lib.hid t2; clear t2
  have T3 := Lib.hid t3; clear t3
  have HS := Lib.hid hsum; clear hsum
  clear l0 l1 l2 l3
  generalize pop64 x0 = q0 at *
  generalize pop64 x1 = q1 at *
  generalize pop64 x2 = q2 at *
  generalize pop64 x3 = q3 at *
  have i0 : ∀ w, (Instr.index 97 (.agg #[.int .u64 x0, .int .u64 x1, .int .u64 x2, .int .u64 x3]) (.int .i64 0)).run Try.prog w = .ok (.int .u64 x0) w := fun _ => by kernel_rfl
  have i1 : ∀ w, (Instr.index 97 (.agg #[.int .u64 x0, .int .u64 x1, .int .u64 x2, .int .u64 x3]) (.int .i64 1)).run Try.prog w = .ok (.int .u64 x1) w := fun _ => by kernel_rfl
  have i2 : ∀ w, (Instr.index 97 (.agg #[.int .u64 x0, .int .u64 x1, .int .u64 x2, .int .u64 x3]) (.int .i64 2)).run Try.prog w = .ok (.int .u64 x2) w := fun _ => by kernel_rfl
  have i3 : ∀ w, (Instr.index 97 (.agg #[.int .u64 x0, .int .u64 x1, .int .u64 x2, .int .u64 x3]) (.int .i64 3)).run Try.prog w = .ok (.int .u64 x3) w := fun _ => by kernel_rfl
  go_enter Try.func17, Try.ntmps17
  go_wp2_with fail
  refine wp_loop_rounds 5 ?_
  rw [rounds_succ]
  go_wp2_with fail
  refine (T0.out _).mono ?_; rintro e w' ⟨rfl, rfl⟩
  go_wp2_with fail
  rw [rounds_succ]
  go_wp2_with fail
  refine (T1.out _).mono ?_; rintro e w' ⟨rfl, rfl⟩
  go_wp2_with fail
  rw [rounds_succ]
  go_wp2_with fail
  refine (T2.out _).mono ?_; rintro e w' ⟨rfl, rfl⟩
  go_wp2_with fail
  rw [rounds_succ]
  go_wp2_with fail
  refine (T3.out _).mono ?_; rintro e w' ⟨rfl, rfl⟩
  go_wp2_with fail
  rw [rounds_succ]
  go_wp2_with fail
  go_ret
  exact ⟨ret_int (by rw [HS.out]; omega), rfl⟩
end Go.Proofs.Ytffcambjdlkfbaa
