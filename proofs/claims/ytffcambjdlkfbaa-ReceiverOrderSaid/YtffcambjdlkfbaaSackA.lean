/- Contracts of the map of chunks (package sack): New, Len, Has, Set, Base, Full over any map of 1 to 256 chunks. No further condition. -/
import Derived.Test.YtffcambjdlkfbaaProg
import Derived.Test.YtffcambjdlkfbaaMem
import Derived.Test.YtffcambjdlkfbaaPlain
import Derived.Laws.BitsAllLaws
namespace Go.Proofs.Ytffcambjdlkfbaa
open Go.RowKit

theorem ret_bool {a b : Bool} (h : a = b) : Ending.returned (.bool a) = .returned (.bool b) := by rw [h]
theorem ret_int {k : IntKind} {a b : Int} (h : a = b) : Ending.returned (.int k a) = .returned (.int k b) := by rw [h]
theorem ret_str {a b : ByteArray} (h : a = b) : Ending.returned (.string a) = .returned (.string b) := by rw [h]

/-- 2^64, behind a name. -/
def two64 : Nat := 18446744073709551616

structure WordsOf (X : Nat → Nat) (l : List Bool) : Prop where
  lt : ∀ q, X q < two64
  bits : ∀ q k, q < 4 → k < 64 → (X q).testBit k = at' l (64 * q + k)

def mapCells (n : Nat) (X : Nat → Nat) : Array Value := #[.int .i64 n, .int .u64 (X 0), .int .u64 (X 1), .int .u64 (X 2), .int .u64 (X 3)]

/-- Block b is a map of chunks that reads as l. -/
def MapAt (w : World) (b : Nat) (l : List Bool) : Prop :=
  1 ≤ l.length ∧ l.length ≤ 256 ∧ ∃ X, WordsOf X l ∧ w.heap[b]? = some (.cells (mapCells l.length X) 99 (0, 0))

abbrev ptr (b : Nat) : Value := .pointer (some ⟨b, 0, none⟩)

theorem MapAt.of_heap {w w' : World} {b : Nat} {l : List Bool} (h : MapAt w b l) (hb : w'.heap[b]? = w.heap[b]?) : MapAt w' b l := by
  obtain ⟨h1, h2, X, hX, hh⟩ := h
  exact ⟨h1, h2, X, hX, hb.trans hh⟩
theorem MapAt.lt {w : World} {b : Nat} {l : List Bool} (h : MapAt w b l) : b < w.heap.size := by
  obtain ⟨_, _, X, _, hh⟩ := h
  exact lt_of_block hh
theorem MapAt.keeps {S : List Nat} {w w' : World} {b : Nat} {l : List Bool} (h : MapAt w b l) (k : Keeps S w w') (hb : b ∉ S) : MapAt w' b l :=
  h.of_heap (k.block b h.lt hb)
theorem MapAt.drew {w : World} {b : Nat} {l : List Bool} (h : MapAt w b l) : MapAt w.drew b l := h

section
variable {w : World} {b n : Nat} {X : Nat → Nat}
theorem map_cell0 (h : w.heap[b]? = some (.cells (mapCells n X) 99 (0, 0))) : w.cell? ⟨b, 0, none⟩ = some (.int .i64 n) := by simp [World.cell?, h, mapCells]
theorem map_cell (h : w.heap[b]? = some (.cells (mapCells n X) 99 (0, 0))) (q : Nat) (hq : q < 4) : w.cell? ⟨b, 1 + q, none⟩ = some (.int .u64 (X q)) := by
  match q, hq with
  | 0, _ => simp [World.cell?, h, mapCells]
  | 1, _ => simp [World.cell?, h, mapCells]
  | 2, _ => simp [World.cell?, h, mapCells]
  | 3, _ => simp [World.cell?, h, mapCells]
theorem map_free (h : w.heap[b]? = some (.cells (mapCells n X) 99 (0, 0))) (o : Nat) : w.frozen? ⟨b, o, none⟩ = false := by simp [World.frozen?, h]
end

theorem MapAt.len {w : World} {b : Nat} {l : List Bool} (h : MapAt w b l) : w.cell? ⟨b, 0, none⟩ = some (.int .i64 l.length) := by
  obtain ⟨_, _, X, _, hh⟩ := h
  exact map_cell0 hh
/-- The cell and the bit of a chunk that there is. -/
theorem MapAt.word {w : World} {b : Nat} {l : List Bool} (h : MapAt w b l) (i : Nat) (hi : i < 256) :
    ∃ x : Nat, x < two64 ∧ w.cell? ⟨b, 1 + i / 64, none⟩ = some (.int .u64 x) ∧ x.testBit (i % 64) = at' l i := by
  obtain ⟨_, _, X, hX, hh⟩ := h
  refine ⟨X (i / 64), hX.lt _, map_cell hh _ (by omega), ?_⟩
  rw [hX.bits _ _ (by omega) (by omega)]
  congr 1; omega

/-- A map, none of which is there. -/
theorem MapAt.made (w : World) (n : Nat) (h1 : 1 ≤ n) (h2 : n ≤ 256) : MapAt (w.alloc (.cells (mapCells n fun _ => 0) 99)) w.heap.size (List.replicate n false) := by
  refine ⟨by simpa using h1, by simpa using h2, fun _ => 0, ⟨fun _ => by unfold two64; omega, fun q k _ _ => ?_⟩, by simpa using heap_alloc_new w _⟩
  have : at' (List.replicate n false) (64 * q + k) = false := by
    unfold at'; rw [List.getD_eq_getElem?_getD, List.getElem?_replicate]; split <;> rfl
  rw [this]; simp

theorem or_bit (x k j : Nat) : (x ||| 2 ^ k).testBit j = (x.testBit j || decide (k = j)) := by
  rw [Nat.testBit_or, Nat.testBit_two_pow]

/-- A bit is set. -/
theorem MapAt.set {w : World} {b : Nat} {l : List Bool} (h : MapAt w b l) (i : Nat) (hi : i < l.length) (x : Nat)
    (hx : w.cell? ⟨b, 1 + i / 64, none⟩ = some (.int .u64 x)) : MapAt (w.setCell ⟨b, 1 + i / 64, none⟩ (.int .u64 (x ||| 2 ^ (i % 64) : Nat))) b (l.set i true) := by
  obtain ⟨h1, h2, X, hX, hh⟩ := h
  have hq : i / 64 < 4 := by omega
  have hxX : x = X (i / 64) := by
    have := (map_cell hh _ hq).symm.trans hx
    have := this.symm
    simp only [Option.some.injEq, Value.int.injEq, true_and] at this
    omega
  subst hxX
  refine ⟨by simpa using h1, by simpa using h2, fun q => if q = i / 64 then X (i / 64) ||| 2 ^ (i % 64) else X q, ⟨fun q => ?_, fun q k hq' hk => ?_⟩, ?_⟩
  · split
    · have a : X (i / 64) < 2 ^ 64 := hX.lt _
      exact Nat.or_lt_two_pow a (Nat.pow_lt_pow_right (by omega) (Nat.mod_lt _ (by omega)))
    · exact hX.lt q
  · rw [at'_set _ _ _ _ hi]
    split
    · rename_i e
      subst e
      rw [or_bit, hX.bits _ _ hq' hk]
      by_cases e2 : 64 * (i / 64) + k = i
      · rw [if_pos e2]; simp; right; omega
      · rw [if_neg e2]
        have : decide (i % 64 = k) = false := by simp; omega
        rw [this, Bool.or_false]
    · rename_i e
      rw [hX.bits _ _ hq' hk, if_neg (by omega)]
  · rw [List.length_set]
    simp only [World.setCell, Array.getElem?_modify]
    rw [if_pos trivial, hh]
    simp only [Option.map_some, Option.some.injEq, Obj.cells.injEq, and_true]
    have hq4 : i / 64 = 0 ∨ i / 64 = 1 ∨ i / 64 = 2 ∨ i / 64 = 3 := by omega
    rcases hq4 with e | e | e | e <;> rw [e] <;> simp [mapCells]

/-- Has: as Go asks it, of any number. -/
def hasL (l : List Bool) (i : Int) : Bool := decide (0 ≤ i) && at' l i.toNat
theorem hasL_neg {l : List Bool} {i : Int} (h : i < 0) : hasL l i = false := by unfold hasL; simp; omega
theorem hasL_high {l : List Bool} {i : Int} (h : (l.length : Int) ≤ i) : hasL l i = false := by
  unfold hasL
  cases e : at' l i.toNat with
  | false => simp
  | true => have := at'_lt e; omega
theorem hasL_nat (l : List Bool) (i : Nat) : hasL l i = at' l i := by unfold hasL; simp

theorem and1_bit (x k : Nat) (hx : x < two64) : (bits BinOp.and IntKind.u64 ((x : Int) / ((2 ^ k : Nat) : Int)) 1 == 1) = x.testBit k := by
  have e : ((x : Int) / ((2 ^ k : Nat) : Int)) = ((x / 2 ^ k : Nat) : Int) := by simp
  have hle : x / 2 ^ k ≤ x := Nat.div_le_self _ _
  unfold two64 at hx
  rw [e, and_one_u64 _ (Int.natCast_nonneg _) (by omega), Nat.testBit_eq_decide_div_mod_eq]
  rw [Bool.eq_iff_iff]
  simp only [beq_iff_eq, decide_eq_true_eq]
  omega

/-- Len. -/
theorem len_any (b : Nat) (l : List Bool) (w : World) (hm : MapAt w b l) : Calls Try.prog 25 #[ptr b] w fun e w' => e = .returned (.int .i64 l.length) ∧ w = w' := by
  have h0 := hm.len
  go_enter Try.func25, Try.ntmps25
  go_wp2
  go_ret
  exact ⟨rfl, rfl⟩

/-- Has. -/
theorem has_any (b : Nat) (l : List Bool) (i : Int) (w : World) (hm : MapAt w b l) :
    Calls Try.prog 14 #[ptr b, .int .i64 i] w fun e w' => e = .returned (.bool (hasL l i)) ∧ w = w' := by
  have hle := hm.2.1
  rcases Int.lt_or_le i 0 with hneg | hpos
  · have e : hasL l i = false := hasL_neg hneg
    rw [e]
    go_enter Try.func14, Try.ntmps14
    go_wp2_with fail
    go_ret
    exact ⟨rfl, rfl⟩
  · obtain ⟨k, rfl⟩ := Int.eq_ofNat_of_zero_le hpos
    rcases Nat.lt_or_ge k l.length with hlt | hge
    · obtain ⟨x, hx, hc, hb⟩ := hm.word k (by omega)
      have H := Lib.hid hb; clear hb
      have e : hasL l k = at' l k := hasL_nat l k
      have HE := Lib.hid e; clear e
      have HX := Lib.hid hx; clear hx
      go_enter Try.func14, Try.ntmps14
      go_wp2_with (go_at_call 25; refine (len_any _ _ _ hm).mono ?_; rintro e w' ⟨rfl, rfl⟩)
      go_ret
      exact ⟨ret_bool (by rw [HE.out, ← H.out, ← and1_bit _ _ HX.out]; simp), rfl⟩
    · have e : hasL l k = false := hasL_high (by omega)
      rw [e]
      go_enter Try.func14, Try.ntmps14
      go_wp2_with (go_at_call 25; refine (len_any _ _ _ hm).mono ?_; rintro e w' ⟨rfl, rfl⟩)
      go_ret
      exact ⟨rfl, rfl⟩

/-- Base. -/
theorem base_any (b : Nat) (l : List Bool) (w : World) (hm : MapAt w b l) : Calls Try.prog 15 #[ptr b] w fun e w' => e = .returned (.int .i64 (baseL l)) ∧ w = w' := by
  have hle := hm.2.1
  go_enter Try.func15, Try.ntmps15
  go_wp2_with fail
  go_loop [3] (fun i => ∃ k : Nat, k ≤ l.length ∧ i = .int .i64 k ∧ ∀ j, j < k → at' l j = true) (fun i => l.length - (intOf i).toNat)
  case atStart => exact ⟨0, Nat.zero_le _, rfl, fun j hj => by omega⟩
  case round =>
    obtain ⟨k, hk, rfl, hb⟩ := hrel
    have HB := Lib.hid hb; clear hb
    by_cases hh : at' l k = true
    · have hlt := at'_lt hh
      have hhas : hasL l k = true := by rw [hasL_nat, hh]
      clear hh
      have HH := Lib.hid hhas; clear hhas
      go_wp2_with (go_at_call 14; refine (has_any _ _ _ _ hm).mono ?_; rintro e w' ⟨rfl, rfl⟩; rw [HH.out])
      go_round
      case rel => exact ⟨k + 1, by omega, by go_num, fun j hj => by
        rcases Nat.lt_or_ge j k with h | h
        · exact HB.out j h
        · obtain rfl : j = k := by omega
          have := HH.out; rwa [hasL_nat] at this⟩
      case measure => simp [intOf]; omega
    · have hhas : hasL l k = false := by rw [hasL_nat]; simpa using hh
      clear hh
      have HH := Lib.hid hhas; clear hhas
      go_wp2_with (go_at_call 14; refine (has_any _ _ _ _ hm).mono ?_; rintro e w' ⟨rfl, rfl⟩; rw [HH.out])
      go_ret
      exact ⟨ret_int (by rw [baseL_eq hk HB.out (Or.inr (by have := HH.out; rwa [hasL_nat] at this))]), rfl⟩
end Go.Proofs.Ytffcambjdlkfbaa
