/- Contracts of the map of chunks (package sack): New, Set, Full, Copy over any map of 1 to 256 chunks. No further condition. -/
import Derived.Test.YtffcambjdlkfbaaSackA
namespace Go.Proofs.Ytffcambjdlkfbaa
open Go.RowKit

/-- May chunk i be set? -/
def setOk (l : List Bool) (i : Int) : Bool := decide (0 ≤ i) && decide (i < (l.length : Int)) && !at' l i.toNat
def setL (l : List Bool) (i : Int) : List Bool := if setOk l i = true then l.set i.toNat true else l
theorem setL_length (l : List Bool) (i : Int) : (setL l i).length = l.length := by unfold setL; split <;> simp

/-- What Set leaves. -/
def SetPost (b : Nat) (l : List Bool) (i : Int) (w : World) (e : Ending) (w' : World) : Prop :=
  e = .returned (.bool (setOk l i)) ∧ MapAt w' b (setL l i) ∧ Keeps [b] w w'

theorem or_shl (x k : Nat) (hx : x < two64) (hk : k < 64) : bits BinOp.or IntKind.u64 (x : Int) (IntKind.u64.wrap (2 ^ k)) = ((x ||| 2 ^ k : Nat) : Int) := by
  have hlt : 2 ^ k < 2 ^ 64 := Nat.pow_lt_pow_right (by omega) hk
  have e : IntKind.u64.wrap (2 ^ k) = ((2 ^ k : Nat) : Int) := by
    have e2 : ((2 : Int) ^ k) = ((2 ^ k : Nat) : Int) := by simp
    rw [IntKind.wrap_u64, e2]
    generalize 2 ^ k = y at hlt
    omega
  rw [e]
  unfold two64 at hx
  exact u64_or_nat x (2 ^ k) hx hlt

theorem set_no (b : Nat) (l : List Bool) (i : Int) (w : World) (hm : MapAt w b l) (hs : setOk l i = false) :
    Calls Try.prog 11 #[ptr b, .int .i64 i] w fun e w' => e = .returned (.bool false) ∧ w = w' := by
  have hle := hm.2.1
  rcases Int.lt_or_le i 0 with hneg | hpos
  · clear hs
    go_enter Try.func11, Try.ntmps11
    go_wp2_with fail
    go_ret
    exact ⟨rfl, rfl⟩
  · rcases Int.lt_or_le i l.length with hlt | hge
    · have hh : hasL l i = true := by
        simp [setOk, hpos, hlt] at hs
        simp [hasL, hpos, hs]
      clear hs
      have HH := Lib.hid hh; clear hh
      go_enter Try.func11, Try.ntmps11
      go_wp2_with (first | (go_at_call 25; refine (len_any _ _ _ hm).mono ?_; rintro e w' ⟨rfl, rfl⟩) | (go_at_call 14; refine (has_any _ _ _ _ hm).mono ?_; rintro e w' ⟨rfl, rfl⟩; rw [HH.out]))
      go_ret
      exact ⟨rfl, rfl⟩
    · clear hs
      go_enter Try.func11, Try.ntmps11
      go_wp2_with (first | (go_at_call 25; refine (len_any _ _ _ hm).mono ?_; rintro e w' ⟨rfl, rfl⟩))
      go_ret
      exact ⟨rfl, rfl⟩

theorem set_yes (b : Nat) (l : List Bool) (k : Nat) (w : World) (hm : MapAt w b l) (hk : k < l.length) (hb : at' l k = false) :
    Calls Try.prog 11 #[ptr b, .int .i64 k] w (SetPost b l k w) := by
  have hle := hm.2.1
  have hh : hasL l k = false := by rw [hasL_nat, hb]
  have HH := Lib.hid hh; clear hh
  have hs : setOk l k = true := by simp [setOk, hk, hb]
  have HS := Lib.hid hs; clear hs
  have HB := Lib.hid hb; clear hb
  obtain ⟨x, hx, hc, hbit⟩ := hm.word k (by omega)
  have hfr : w.frozen? ⟨b, 1 + k / 64, none⟩ = false := by
    obtain ⟨_, _, X, _, hh⟩ := hm
    exact map_free hh _
  have Hbit := Lib.hid hbit; clear hbit
  have HX := Lib.hid hx; clear hx
  have hset := hm.set k hk x hc
  have HSet := Lib.hid hset; clear hset
  go_enter Try.func11, Try.ntmps11
  go_wp2_with (first | (go_at_call 25; refine (len_any _ _ _ hm).mono ?_; rintro e w' ⟨rfl, rfl⟩) | (go_at_call 14; refine (has_any _ _ _ _ hm).mono ?_; rintro e w' ⟨rfl, rfl⟩; rw [HH.out]))
  go_region
  all_goals go_wp2
  rw [or_shl x (k % 64) HX.out (Nat.mod_lt _ (by omega))]
  go_ret
  exact ⟨ret_bool HS.out.symm, by unfold setL; rw [if_pos HS.out]; exact HSet.out, ((Keeps.refl [b] w).setCell (p := ⟨b, 1 + k / 64, none⟩) (Or.inl (List.mem_singleton.2 rfl)) _).drew⟩

/-- Set. -/
theorem set_any (b : Nat) (l : List Bool) (i : Int) (w : World) (hm : MapAt w b l) : Calls Try.prog 11 #[ptr b, .int .i64 i] w (SetPost b l i w) := by
  cases hs : setOk l i with
  | false =>
    refine (set_no b l i w hm hs).mono ?_
    rintro e w' ⟨rfl, rfl⟩
    exact ⟨by rw [hs], by unfold setL; rw [hs]; exact hm, Keeps.refl _ _⟩
  | true =>
    simp only [setOk, Bool.and_eq_true, decide_eq_true_eq, Bool.not_eq_true'] at hs
    obtain ⟨⟨h1, h2⟩, h3⟩ := hs
    obtain ⟨k, rfl⟩ := Int.eq_ofNat_of_zero_le h1
    exact set_yes b l k w hm (by omega) h3

theorem new_no (n : Int) (w : World) (h : n < 1 ∨ 256 < n) : Calls Try.prog 10 #[.int .i64 n] w fun e w' => e = .returned (.tuple #[.pointer none, .int .i64 1]) ∧ w = w' := by
  rcases h with h | h
  all_goals
    go_enter Try.func10, Try.ntmps10
    go_wp2
    go_ret2
    exact ⟨rfl, rfl⟩

theorem new_yes (n : Nat) (w : World) (h1 : 1 ≤ n) (h2 : n ≤ 256) :
    Calls Try.prog 10 #[.int .i64 n] w fun e w' => e = .returned (.tuple #[ptr w.heap.size, .int .i64 0]) ∧ w.alloc (.cells (mapCells n fun _ => 0) 99) = w' := by
  go_enter Try.func10, Try.ntmps10
  go_wp2
  go_ret2
  exact ⟨rfl, rfl⟩

/-- Full. -/
theorem full_any (b : Nat) (l : List Bool) (w : World) (hm : MapAt w b l) : Calls Try.prog 19 #[ptr b] w fun e w' => e = .returned (.bool (baseL l == l.length)) ∧ ∃ n, w.drewN n = w' := by
  have h0 := hm.len
  go_enter Try.func19, Try.ntmps19
  go_wp2_with fail
  go_quiet ((go_at_call 15; exact quiet_same (base_any _ _ _ (hm.of_heap rfl))))
  go_wp2
  go_ret
  exact ⟨ret_bool (by rw [Bool.eq_iff_iff]; simp; omega), nq, rfl⟩

/-- Copy: a new block that reads the same. -/
def CopyPost (l : List Bool) (w : World) (e : Ending) (w' : World) : Prop :=
  e = .returned (ptr w.heap.size) ∧ MapAt w' w.heap.size l ∧ Keeps [] w w' ∧ w.heap.size < w'.heap.size

theorem copy_any (b : Nat) (l : List Bool) (w : World) (hm : MapAt w b l) : Calls Try.prog 66 #[ptr b] w (CopyPost l w) := by
  have h0 := hm.len
  obtain ⟨h1, h2, X, hX, hh⟩ := hm
  have c0 := map_cell hh 0 (by omega)
  have c1 := map_cell hh 1 (by omega)
  have c2 := map_cell hh 2 (by omega)
  have c3 := map_cell hh 3 (by omega)
  simp only [Nat.add_zero, Nat.reduceAdd] at c0 c1 c2 c3
  have HH := Lib.hid hh; clear hh
  have H1 := Lib.hid h1; clear h1
  go_enter Try.func66, Try.ntmps66
  go_wp2
  go_ret
  refine ⟨rfl, ⟨H1.out, h2, X, hX, heap_alloc_new w _⟩, (Keeps.refl _ _).alloc _, by simp⟩
end Go.Proofs.Ytffcambjdlkfbaa
