/- Contracts of the map of chunks (package sack): Behind, Merge, Missing, over any map of 1 to 256 chunks. -/
import Derived.Test.YtffcambjdlkfbaaSackC
import Derived.Laws.BytesArg
import Derived.Deep.DeepCutAuto
namespace Go.Proofs.Ytffcambjdlkfbaa
open Go.RowKit

theorem Try.info5 : (Try.prog.info? 5).map (fun i => (i.zero, i.size, i.bytes)) = some (some (.int .u8 0), 1, 1) := by kernel_rfl


/-- Numbers below 256, as bytes in memory, as the string that they are. -/
def byteVals (ns : List Nat) : List Value := ns.map fun n : Nat => .int .u8 (n : Int)
theorem byteVals_get (ns : List Nat) (i : Nat) : (byteVals ns)[i]? = (ns[i]?).map fun n => .int .u8 (n : Int) := by simp [byteVals]
theorem byteVals_set (ns : List Nat) (i n : Nat) : (byteVals ns).set i (.int .u8 (n : Int)) = byteVals (ns.set i n) := by simp [byteVals, List.map_set]

theorem or_byte (x k : Nat) (hk : k < 8) (hx : x < 2 ^ k) : bits BinOp.or IntKind.u8 (x : Int) (2 ^ k % 256) = ((x + 2 ^ k : Nat) : Int) := by
  have hlt : 2 ^ k < 2 ^ 8 := Nat.pow_lt_pow_right (by omega) hk
  have e : (2 : Int) ^ k % 256 = ((2 ^ k : Nat) : Int) := by
    have e2 : ((2 : Int) ^ k) = ((2 ^ k : Nat) : Int) := by simp
    rw [e2]
    generalize 2 ^ k = y at hlt
    omega
  rw [e, u8_or_nat x (2 ^ k) (by omega) hlt, Nat.or_comm, nat_join k (2 ^ k) x (Nat.mod_self _) hx, Nat.add_comm]

theorem convert_row {P : Program} (src e : TypeId) (hs : P.underlying src = some (.slice e)) (he : P.underlying e = some (.int .u8)) (dst : TypeId) (hd : P.underlying dst = some .string)
    (w : World) (g : Nat) (T : TypeId) (ns : List Nat) (cap : Nat) (h : RowAt w g T (byteVals ns)) :
    (convert src dst (.slice (some ⟨g, 0, none⟩) ns.length cap)).run P w = .ok (.string ⟨(ns.map UInt8.ofNat).toArray⟩) w := by
  have := run_convert_bytes_arg (P := P) w src e hs he g 0 ns.length cap (ns.map Int.ofNat) (by simp) (fun i hi => by
    rw [Nat.zero_add, h.cell, byteVals_get, List.getElem?_eq_getElem hi]
    simp [List.getD, hi]) dst hd
  rw [this]
  congr 3
  simp only [strOfNums, List.map_map]
  congr 2

/-- make([]byte, n), n small: the very world. -/
theorem make_bytes (u : World) (n : Nat) (N : Int) (hN : N = n) (hn : n ≤ 1000000) : (Instr.makeSlice 94 (.int .i64 N) (.int .i64 N)).run Try.prog u =
    .ok (.slice (some ⟨u.heap.size, 0, none⟩) n n) (u.alloc (.cells (byteVals (List.replicate n 0)).toArray 5)) := by
  obtain ⟨i0, hi, hz0, hz1, hz2⟩ := info_parts Try.info5
  subst hN
  have h := run_make (P := Try.prog) u 94 5 i0 (.int .u8 0) Try.underlying94 hi hz0 .i64 .i64 (n : Int) (n : Int) (by omega) (Int.le_refl _) (by rw [hz2]; omega) (by omega)
  have e : madeCells (Value.int IntKind.u8 0).cells n = (byteVals (List.replicate n 0)).toArray := by
    rw [← Array.toList_inj, show (Value.int IntKind.u8 0).cells = #[.int .u8 0] from rfl, toList_madeCells_one]
    simp [byteVals]
  rw [Int.toNat_natCast, hz1, Nat.mul_one, e] at h
  exact h

/-- Behind. -/
def BehindPost (l : List Bool) (k : Int) (w : World) (e : Ending) (w' : World) : Prop :=
  e = .returned (.string ⟨(behindL l (upTo256 k)).toArray⟩) ∧ Keeps [] w w'

set_option maxRecDepth 100000 in
theorem behind_any (b : Nat) (l : List Bool) (k : Int) (w : World) (hm : MapAt w b l) : Calls Try.prog 20 #[ptr b, .int .i64 k] w (BehindPost l k w) := by
  have hle := hm.2.1
  have hbl := baseL_le l
  have hups : upTo256 k ≤ 256 := by unfold upTo256; omega
  go_enter Try.func20, Try.ntmps20
  go_upto_region 3 with fail
  go_cut [1] (fun v wx => wx = w ∧ v = .int .i64 (upTo256 k))
  case first =>
    by_cases a : k < 0
    · go_wp2_with fail
      go_meet
      exact ⟨rfl, by unfold upTo256; congr 1; omega⟩
    · by_cases c : k ≤ 256
      · go_wp2_with fail
        go_meet
        exact ⟨rfl, by unfold upTo256; congr 1; omega⟩
      · go_wp2_with fail
        go_meet
        exact ⟨rfl, by unfold upTo256; congr 1; omega⟩
  case rest =>
    obtain ⟨rfl, rfl⟩ := hcut
    generalize hkk : upTo256 k = kk at *
    have hmk := fun u : World => make_bytes u ((kk + 7) / 8) (((kk : Int) + 7) / 8) (by omega) (by omega)
    have HK := Lib.hid hkk; clear hkk
    go_wp2_with (go_at_call 15; refine (base_any _ l _ (hm.keeps ((Keeps.refl [] _).alloc _) (by simp))).mono ?_; rintro e w' ⟨rfl, rfl⟩)
    have hg0 : wc.heap.size ∉ ([] : List Nat) := by simp
    have hnew := RowAt.new wc 5 (byteVals (List.replicate ((kk + 7) / 8) 0))
    have HNew := Lib.hid hnew; clear hnew
    have HM := Lib.hid hm; clear hm
    clear hmk
    generalize hG : wc.heap.size = g at *
    have HG := Lib.hid hG; clear hG
    go_loopw [21] (fun c wr => ∃ k : Nat, k ≤ kk ∧ c = .int .i64 k ∧ RowAt wr g 5 (byteVals (accB (gB l) k ((kk + 7) / 8))) ∧ MapAt wr b l ∧ Keeps [] wc wr) (fun c _ => kk - (intOf c).toNat)
    case atStart => exact ⟨0, Nat.zero_le _, rfl, by rw [accB_zero]; exact HNew.out, HM.out.keeps ((Keeps.refl [] _).alloc _) (by simp), (Keeps.refl [] _).alloc _⟩
    case round =>
      obtain ⟨c, hc, rfl, hrow, hm, hkp⟩ := hrel
      have hkp := Lib.hid hkp
      by_cases hlt : c < kk
      · cases hb : gB l c with
        | false =>
          have hh : hasL l ((baseL l : Int) + 1 + (c : Int)) = false := by
            rw [show ((baseL l : Int) + 1 + (c : Int)) = ((baseL l + 1 + c : Nat) : Int) from by omega, hasL_nat]; exact hb
          have HH := Lib.hid hh; clear hh
          have HB := Lib.hid hb; clear hb
          have hrow := Lib.hid hrow
          go_wp2_with (go_at_call 14; refine (has_any _ _ _ _ hm).mono ?_; rintro e w' ⟨rfl, rfl⟩; rw [HH.out])
          go_roundw
          case rel => exact ⟨c + 1, by omega, by go_num, by rw [accB_skip _ _ _ HB.out]; exact hrow.out, hm, hkp.out⟩
          case measure => simp [intOf]; omega
        | true =>
          have hh : hasL l ((baseL l : Int) + 1 + (c : Int)) = true := by
            rw [show ((baseL l : Int) + 1 + (c : Int)) = ((baseL l + 1 + c : Nat) : Int) from by omega, hasL_nat]; exact hb
          have HH := Lib.hid hh; clear hh
          have hst := byteAt_step (gB l) c hb
          have hcell : wr.cell? ⟨g, c / 8, none⟩ = some (.int .u8 (byteAt (gB l) c (c / 8) : Nat)) := by
            rw [hrow.cell, byteVals_get, accB_get _ _ _ _ (by omega)]; rfl
          have hfree := hrow.free (c / 8)
          have hset := hrow.set (c / 8) (.int .u8 ((byteAt (gB l) c (c / 8) + 2 ^ (c % 8) : Nat) : Int))
          rw [byteVals_set, ← accB_set (gB l) c _ hb] at hset
          have hor := or_byte _ (c % 8) (Nat.mod_lt _ (by omega)) hst.1
          have HSet := Lib.hid hset; clear hset
          have HB := Lib.hid hb; clear hb
          have HSt := Lib.hid hst; clear hst
          have HOr := Lib.hid hor; clear hor
          have hrow := Lib.hid hrow
          generalize byteAt (gB l) c (c / 8) = x at *
          go_wp2_with (go_at_call 14; refine (has_any _ _ _ _ hm).mono ?_; rintro e w' ⟨rfl, rfl⟩; rw [HH.out])
          go_region
          all_goals go_wp2
          rw [HOr.out]
          have hk2 := (hkp.out.setCell (p := ⟨g, c / 8, none⟩) (Or.inr (by rw [HG.out]; exact Nat.le_refl _)) (.int .u8 ((x + 2 ^ (c % 8) : Nat) : Int)))
          go_roundw
          case rel => exact ⟨c + 1, by omega, by go_num, HSet.out, hm.of_heap (Below.heap_setCell _ _ _ _ (by have := HM.out.lt; rw [HG.out] at this; exact Nat.ne_of_lt this)), hk2.drew⟩
          case measure => simp [intOf]; omega
      · obtain rfl : c = kk := by omega
        have hcv := convert_row (P := Try.prog) 94 5 Try.underlying94 Try.underlying5 9 Try.underlying9 wr g 5 _ ((c + 7) / 8) hrow
        rw [accB_length] at hcv
        have hrow := Lib.hid hrow
        have hm := Lib.hid hm
        have hfin : behindL l (upTo256 k) = List.map UInt8.ofNat (accB (gB l) c ((c + 7) / 8)) := by rw [HK.out]; rfl
        rw [← hfin] at hcv
        clear hfin
        generalize hout : behindL l (upTo256 k) = out at *
        have HO := Lib.hid hout; clear hout
        go_wp2_with fail
        go_ret
        exact ⟨ret_str (by rw [HO.out]), hkp.out⟩
end Go.Proofs.Ytffcambjdlkfbaa
