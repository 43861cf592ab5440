/- Contracts of the map of chunks (package sack): Merge, over any map of 1 to 256 chunks and any text of at most 1000 bytes. -/
import Derived.Test.YtffcambjdlkfbaaSackD
namespace Go.Proofs.Ytffcambjdlkfbaa
open Go.RowKit

theorem atOf_eq (base : Int) (k : Nat) : wrap64 (wrap64 ((k : Int) - base) - 1) = atOf base k := by
  unfold atOf wrap' wrap64; rfl

theorem atOf_le (base : Int) (k : Nat) : atOf base k ≤ 9223372036854775807 := by unfold atOf wrap'; omega

theorem and1_byte (x k : Nat) (hx : x < 256) : bits BinOp.and IntKind.u8 ((x : Int) / 2 ^ k) 1 = if x.testBit k = true then 1 else 0 := by
  have e : ((x : Int) / 2 ^ k) = ((x / 2 ^ k : Nat) : Int) := by simp
  have hle : x / 2 ^ k ≤ x := Nat.div_le_self _ _
  have := u8_and_nat (x / 2 ^ k) 1 (by omega) (by omega)
  rw [nat_mask1] at this
  rw [e, show (1 : Int) = ((1 : Nat) : Int) from rfl, this, Nat.testBit_eq_decide_div_mod_eq]
  by_cases h : x / 2 ^ k % 2 = 1
  · simp [h]
  · have : x / 2 ^ k % 2 = 0 := by omega
    simp [this]

theorem bitOf_at (s : ByteArray) (A : Nat) (h : A / 8 < s.size) : bitOf s A = (s[A / 8]'h).toNat.testBit (A % 8) := by
  unfold bitOf
  congr 2
  rw [Array.getD_eq_getD_getElem?, Array.getElem?_eq_getElem (by exact h)]
  rfl

/-- What Merge leaves. -/
def MergePost (b : Nat) (l : List Bool) (base : Int) (s : ByteArray) (w : World) (e : Ending) (w' : World) : Prop :=
  e = .returned (.int .i64 (newOnes l (toldAt base s) l.length)) ∧ MapAt w' b (laid l (toldAt base s) l.length) ∧ Keeps [b] w w'

theorem merge_any (b : Nat) (l : List Bool) (base : Int) (s : ByteArray) (w : World) (hm : MapAt w b l) (hs : s.size ≤ 1000) :
    Calls Try.prog 13 #[ptr b, .int .i64 base, .string s] w (MergePost b l base s w) := by
  have hle := hm.2.1
  go_enter Try.func13, Try.ntmps13
  go_wp2_with (go_at_call 25; refine (len_any _ _ _ hm).mono ?_; rintro e w' ⟨rfl, rfl⟩)
  have HM := Lib.hid hm; clear hm
  go_loopw [6, 12] (fun n c wr => ∃ k : Nat, k ≤ l.length ∧ c = .int .i64 k ∧ n = .int .i64 (newOnes l (toldAt base s) k) ∧ MapAt wr b (laid l (toldAt base s) k) ∧ Keeps [b] w wr) (fun _ c _ => l.length - (intOf c).toNat)
  case atStart => exact ⟨0, Nat.zero_le _, rfl, rfl, by rw [laid_zero]; exact HM.out, Keeps.refl _ _⟩
  case round =>
    obtain ⟨k, hk, rfl, rfl, hm, hkp⟩ := hrel
    have hno := newOnes_le l (toldAt base s) k
    have hsucc := newOnes_succ l (toldAt base s) k
    by_cases hlt : k < l.length
    · have hat := atOf_eq base k
      -- what the call of Set gives, where it comes to it
      have hset : toldAt base s k = true → Calls Try.prog 11 #[ptr b, .int .i64 k] wr fun e w' => e = .returned (.bool (!at' l k)) ∧ MapAt w' b (laid l (toldAt base s) (k + 1)) ∧ Keeps [b] w w' := by
        intro ht
        refine (set_any b _ k wr hm).mono ?_
        rintro e w' ⟨rfl, h2, h3⟩
        have hso : setOk (laid l (toldAt base s) k) k = !at' l k := by
          simp [setOk, laid_length, hlt, at'_laid_self]
        refine ⟨by rw [hso], ?_, hkp.trans h3⟩
        unfold setL at h2
        rw [hso] at h2
        cases hb : at' l k with
        | false =>
          rw [hb] at h2
          rw [laid_set _ _ _ hlt ht]
          simpa using h2
        | true =>
          rw [hb] at h2
          rw [laid_skip _ _ _ (Or.inr hb)]
          simpa using h2
      have hskip : toldAt base s k = false → MapAt wr b (laid l (toldAt base s) (k + 1)) := fun ht => by rw [laid_skip _ _ _ (Or.inl ht)]; exact hm
      have hkp := Lib.hid hkp
      have hm := Lib.hid hm
      rename_i hm0
      clear hm0
      cases ht : toldAt base s k with
      | false =>
        have HSkip := Lib.hid (hskip ht)
        have HN := Lib.hid (show newOnes l (toldAt base s) (k + 1) = newOnes l (toldAt base s) k from by rw [hsucc, ht]; simp)
        clear hset hskip hsucc
        unfold toldAt at ht
        rcases Int.lt_or_le (k : Int) base with hb | hb
        · rw [if_pos hb] at ht; cases ht
        · rw [if_neg (by omega)] at ht
          have HT := Lib.hid ht; clear ht
          by_cases h2 : base < (k : Int) ∧ 0 ≤ atOf base k ∧ atOf base k < 8 * (s.size : Int)
          · have ht := HT.out
            rw [if_pos h2] at ht
            obtain ⟨h2, h3, h4⟩ := h2
            obtain ⟨A, hA⟩ := Int.eq_ofNat_of_zero_le h3
            rw [hA] at hat h3 h4 ht
            have h5 : A / 8 < s.size := by omega
            rw [Int.toNat_natCast, bitOf_at s A h5] at ht
            have hv := and1_byte (s[A / 8]).toNat (A % 8) (by exact UInt8.toNat_lt _)
            rw [ht] at hv
            simp only [Bool.false_eq_true, if_false] at hv
            clear h3 h4 hA ht
            go_wp2_with fail
            go_roundw
            case rel => exact ⟨k + 1, by omega, by go_num, by rw [HN.out], HSkip.out, hkp.out⟩
            case measure => simp [intOf]; omega
          · by_cases h3 : base < (k : Int)
            · rcases Int.lt_or_le (atOf base k) 0 with h4 | h4
              · generalize atOf base k = A at *
                clear h2
                go_wp2_with fail
                go_roundw
                case rel => exact ⟨k + 1, by omega, by go_num, by rw [HN.out], HSkip.out, hkp.out⟩
                case measure => simp [intOf]; omega
              · obtain ⟨A, hA⟩ := Int.eq_ofNat_of_zero_le h4
                have hAb := atOf_le base k
                rw [hA] at hat h4 h2 hAb
                have h5 : s.size ≤ A / 8 := by omega
                clear h2 h4 hA
                go_wp2_with fail
                go_roundw
                case rel => exact ⟨k + 1, by omega, by go_num, by rw [HN.out], HSkip.out, hkp.out⟩
                case measure => simp [intOf]; omega
            · clear h2
              generalize atOf base k = A at *
              go_wp2_with fail
              go_roundw
              case rel => exact ⟨k + 1, by omega, by go_num, by rw [HN.out], HSkip.out, hkp.out⟩
              case measure => simp [intOf]; omega
      | true =>
        have hset := hset ht
        have HN := Lib.hid (show newOnes l (toldAt base s) (k + 1) = newOnes l (toldAt base s) k + if at' l k = false then 1 else 0 from by rw [hsucc, ht]; simp)
        clear hskip hsucc
        unfold toldAt at ht
        rcases Int.lt_or_le (k : Int) base with hb | hb
        · clear ht
          generalize atOf base k = A at *
          cases hq : at' l k with
          | false =>
            rw [hq] at hset
            have HSet := Lib.hid hset; clear hset
            have HQ := Lib.hid hq; clear hq
            go_wp2_with (go_at_call 11; refine (HSet.out).mono ?_; rintro e w' ⟨rfl, hm', hk'⟩)
            go_roundw
            case rel => exact ⟨k + 1, by omega, by go_num, by rw [HN.out, if_pos HQ.out]; go_num, hm', hk'⟩
            case measure => simp [intOf]; omega
          | true =>
            rw [hq] at hset
            have HSet := Lib.hid hset; clear hset
            have HQ := Lib.hid hq; clear hq
            go_wp2_with (go_at_call 11; refine (HSet.out).mono ?_; rintro e w' ⟨rfl, hm', hk'⟩)
            go_roundw
            case rel => exact ⟨k + 1, by omega, by go_num, by rw [HN.out, HQ.out]; go_num, hm', hk'⟩
            case measure => simp [intOf]; omega
        · rw [if_neg (by omega)] at ht
          by_cases h2 : base < (k : Int) ∧ 0 ≤ atOf base k ∧ atOf base k < 8 * (s.size : Int)
          · rw [if_pos h2] at ht
            obtain ⟨h2, h3, h4⟩ := h2
            obtain ⟨A, hA⟩ := Int.eq_ofNat_of_zero_le h3
            rw [hA] at hat h3 h4 ht
            have h5 : A / 8 < s.size := by omega
            rw [Int.toNat_natCast, bitOf_at s A h5] at ht
            have hv := and1_byte (s[A / 8]).toNat (A % 8) (by exact UInt8.toNat_lt _)
            rw [ht] at hv
            simp only [if_true] at hv
            clear h3 h4 hA ht
            cases hq : at' l k with
            | false =>
              rw [hq] at hset
              have HSet := Lib.hid hset; clear hset
              have HQ := Lib.hid hq; clear hq
              go_wp2_with (go_at_call 11; refine (HSet.out).mono ?_; rintro e w' ⟨rfl, hm', hk'⟩)
              go_roundw
              case rel => exact ⟨k + 1, by omega, by go_num, by rw [HN.out, if_pos HQ.out]; go_num, hm', hk'⟩
              case measure => simp [intOf]; omega
            | true =>
              rw [hq] at hset
              have HSet := Lib.hid hset; clear hset
              have HQ := Lib.hid hq; clear hq
              go_wp2_with (go_at_call 11; refine (HSet.out).mono ?_; rintro e w' ⟨rfl, hm', hk'⟩)
              go_roundw
              case rel => exact ⟨k + 1, by omega, by go_num, by rw [HN.out, HQ.out]; go_num, hm', hk'⟩
              case measure => simp [intOf]; omega
          · rw [if_neg h2] at ht; cases ht
    · obtain rfl : k = l.length := by omega
      have hkp := Lib.hid hkp
      have hm := Lib.hid hm
      clear hsucc
      go_wp2_with fail
      go_ret
      exact ⟨rfl, hm.out, hkp.out⟩
end Go.Proofs.Ytffcambjdlkfbaa
