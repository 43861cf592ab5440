/- Contract of the reader's Uint (package varint). -/
import Derived.Test.YtffcambjdlkfbaaVarB
namespace Go.Proofs.Ytffcambjdlkfbaa
open Go.RowKit

/-- What Uint takes: the number, what it leaves, what it notes; k more bytes may come, i have come, n is what they say. -/
def uintR : Nat → Nat → Nat → ByteArray → Int → Nat × ByteArray × Int
  | 0, _, _, s, e => (0, s, e)
  | k + 1, i, n, s, e =>
    if byteE s e ≠ 0 then (0, byteS s e, byteE s e)
    else if (i = 9 ∧ 1 < byteV s e) ∨ (0 < i ∧ byteV s e = 0) then (0, byteS s e, 4)
    else if byteV s e < 128 then (n + byteV s e % 128 * 2 ^ (7 * i), byteS s e, 0)
    else uintR k (i + 1) (n + byteV s e % 128 * 2 ^ (7 * i)) (byteS s e) 0

theorem byteV_lt (s : ByteArray) (e : Int) : byteV s e < 256 := by
  unfold byteV
  split
  · omega
  · exact UInt8.toNat_lt _

theorem or_uint (n c i : Nat) (hn : n < 2 ^ (7 * i)) (hc : c < 256) (hi : i ≤ 9) (h9 : i = 9 → c ≤ 1) :
    bits BinOp.or IntKind.u64 (n : Int) (IntKind.u64.wrap (IntKind.u64.wrap (bits BinOp.and IntKind.u8 (c : Int) 127) * 2 ^ (7 * i))) = ((n + c % 128 * 2 ^ (7 * i) : Nat) : Int) := by
  have e1 : bits BinOp.and IntKind.u8 (c : Int) 127 = ((c % 128 : Nat) : Int) := by
    have := u8_and_nat c 127 hc (by omega)
    rw [show c &&& 127 = c % 128 from Nat.and_two_pow_sub_one_eq_mod c 7] at this
    exact this
  have e2 : IntKind.u64.wrap ((c % 128 : Nat) : Int) = ((c % 128 : Nat) : Int) := by rw [IntKind.wrap_u64]; omega
  have e3 : ((2 : Int) ^ (7 * i)) = ((2 ^ (7 * i) : Nat) : Int) := by simp
  have hM : 2 ^ (7 * i) ≤ 2 ^ 63 := Nat.pow_le_pow_right (by omega) (by omega)
  have hd : c % 128 * 2 ^ (7 * i) < 2 ^ 64 := by
    by_cases h : i = 9
    · have := h9 h
      have hc1 : c % 128 ≤ 1 := by omega
      have := Nat.mul_le_mul_right (2 ^ (7 * i)) hc1
      omega
    · have hM2 : 2 ^ (7 * i) ≤ 2 ^ 56 := Nat.pow_le_pow_right (by omega) (by omega)
      have hc1 : c % 128 ≤ 127 := by omega
      have := Nat.mul_le_mul_right (2 ^ (7 * i)) hc1
      omega
  have e4 : IntKind.u64.wrap (((c % 128 : Nat) : Int) * 2 ^ (7 * i)) = ((c % 128 * 2 ^ (7 * i) : Nat) : Int) := by
    rw [e3, ← Int.natCast_mul, IntKind.wrap_u64]
    generalize c % 128 * 2 ^ (7 * i) = y at *
    omega
  rw [e1, e2, e4, u64_or_nat n _ (by omega) hd, Nat.or_comm, nat_join (7 * i) _ n (Nat.mul_mod_left _ _) hn, Nat.add_comm]

theorem uint_bound (n c i : Nat) (hn : n < 2 ^ (7 * i)) : n + c % 128 * 2 ^ (7 * i) < 2 ^ (7 * (i + 1)) := by
  have e : 2 ^ (7 * (i + 1)) = 128 * 2 ^ (7 * i) := by rw [show 7 * (i + 1) = 7 * i + 7 from by omega, Nat.pow_add]; omega
  rw [e]
  have hc1 : c % 128 ≤ 127 := by omega
  have := Nat.mul_le_mul_right (2 ^ (7 * i)) hc1
  omega

theorem ret_u64 {a : Int} {b : Nat} (h : a = (b : Int)) : Ending.returned (.int .u64 a) = .returned (.int .u64 (b : Int)) := by rw [h]

set_option maxRecDepth 100000 in
set_option maxHeartbeats 4000000 in
theorem uint69 (b : Nat) (s0 : ByteArray) (e0 : Int) (w : World) (h : RdAt w b 134 s0 e0) (R : Nat × ByteArray × Int) (hR : uintR 10 0 0 s0 e0 = R) :
    Calls Try.prog 69 #[ptr b] w fun en w' => en = .returned (.int .u64 R.1) ∧ RdAt w' b 134 R.2.1 R.2.2 ∧ Keeps [b] w w' := by
  have H := Lib.hid h; clear h
  have HR := Lib.hid hR; clear hR
  go_enter Try.func69, Try.ntmps69
  go_wp2_with fail
  go_loopw [2, 7] (fun v c wr => ∃ (i n : Nat) (s : ByteArray) (e : Int), i ≤ 9 ∧ c = .int .i64 i ∧ v = .int .u64 n ∧ n < 2 ^ (7 * i) ∧ RdAt wr b 134 s e ∧ Keeps [b] w wr ∧ uintR (10 - i) i n s e = R) (fun _ c _ => 10 - (intOf c).toNat)
  case atStart => exact ⟨0, 0, s0, e0, by omega, rfl, rfl, by decide, H.out, Keeps.refl _ _, HR.out⟩
  case round =>
    obtain ⟨i, n, s, e, hi, rfl, rfl, hn, hr, hk, hu⟩ := hrel
    have HK := Lib.hid (byte89 b s e wr hr)
    have hc := byteV_lt s e
    rw [show 10 - i = (9 - i) + 1 from by omega] at hu
    unfold uintR at hu
    have Hk := Lib.hid hk
    clear hk hr
    by_cases he : byteE s e = 0
    · have HK0 := HK.out
      rw [he] at HK0
      have HK0 := Lib.hid HK0
      rename_i HK00
      clear HK00 HK
      by_cases hb : (i = 9 ∧ 1 < byteV s e) ∨ (0 < i ∧ byteV s e = 0)
      · rw [if_neg (by simpa using he), if_pos hb] at hu
        have HU := Lib.hid hu
        clear hu
        generalize byteV s e = c at *
        go_upto_region 7 with (first | (go_at_call 89; refine (HK0.out).mono ?_; rintro en w' ⟨rfl, hr2, hk2⟩; have c1 := hr2.c1; have HR2 := Lib.hid hr2; have HK2 := Lib.hid hk2; clear hr2 hk2))
        go_cut [32] (fun v wx => v = .bool true ∧ wx = w')
        case first =>
          by_cases i9 : i = 9 ∧ 1 < c
          · obtain ⟨i9, c9⟩ := i9
            subst i9
            have b1 : decide ((1 : Int) < (c : Int)) = true := decide_eq_true (by omega)
            clear hb
            go_wp2_with fail
            go_meet
            exact ⟨rfl, rfl⟩
          · have hb2 : 0 < i ∧ c = 0 := by
              rcases hb with h | h
              · exact absurd h i9
              · exact h
            obtain ⟨i0, c0⟩ := hb2
            subst c0
            have b0 : decide ((0 : Int) < (i : Int)) = true := decide_eq_true (by omega)
            clear hb i9
            by_cases i9 : i = 9
            · subst i9
              go_wp2_with fail
              go_meet
              exact ⟨rfl, rfl⟩
            · have b9 : ((i : Int) == 9) = false := by simp; omega
              go_wp2_with fail
              go_meet
              exact ⟨rfl, rfl⟩
        case rest =>
          obtain ⟨rfl, rfl⟩ := hcut
          clear hb
          go_wp2_with fail
          refine (fail90 b _ 0 4 _ HR2.out).mono ?_
          rintro en w'' ⟨rfl, hr3, hk3⟩
          rw [show failE 0 4 = 4 from rfl] at hr3
          have c1' := hr3.c1
          have hr3 := Lib.hid hr3
          have hk3 := Lib.hid hk3
          go_wp2_with fail
          go_ret
          exact ⟨by rw [← HU.out]; rfl, by rw [← HU.out]; exact hr3.out, (Hk.out.trans HK2.out).trans hk3.out⟩
      · rw [if_neg (by simpa using he), if_neg hb] at hu
        have HU := Lib.hid hu
        clear hu
        generalize byteV s e = c at *
        have h9c : i = 9 → c ≤ 1 := fun h => by
          rcases Nat.lt_or_ge 1 c with h1 | h1
          · exact absurd (Or.inl ⟨h, h1⟩) hb
          · exact h1
        have hor := or_uint n c i hn hc hi h9c
        have hbd := uint_bound n c i hn
        have HOr := Lib.hid hor
        have HBd := Lib.hid hbd
        clear hor hbd
        go_upto_region 7 with (first | (go_at_call 89; refine (HK0.out).mono ?_; rintro en w' ⟨rfl, hr2, hk2⟩; have c1 := hr2.c1; have HR2 := Lib.hid hr2; have HK2 := Lib.hid hk2; clear hr2 hk2))
        go_cut [32] (fun v wx => v = .bool false ∧ wx = w')
        case first =>
          by_cases i9 : i = 9
          · have c1' : c = 1 := by omega
            subst i9
            subst c1'
            go_wp2_with fail
            go_meet
            exact ⟨rfl, rfl⟩
          · have b9 : ((i : Int) == 9) = false := by simp; omega
            by_cases i0 : i = 0
            · subst i0
              go_wp2_with fail
              go_meet
              exact ⟨rfl, rfl⟩
            · have c0 : ((c : Int) == 0) = false := by simp; omega
              have b0 : decide ((0 : Int) < (i : Int)) = true := decide_eq_true (by omega)
              go_wp2_with fail
              go_meet
              exact ⟨rfl, rfl⟩
        case rest =>
          obtain ⟨rfl, rfl⟩ := hcut
          by_cases hlt : c < 128
          · have HU2 := HU.out
            rw [if_pos hlt] at HU2
            have HU2 := Lib.hid HU2
            rename_i HU20
            clear HU20 HU
            have t1 : decide ((c : Int) < 128) = true := decide_eq_true (by omega)
            clear hb
            go_wp2_with fail
            go_ret
            exact ⟨by rw [← HU2.out]; exact ret_u64 HOr.out, by rw [← HU2.out]; exact HR2.out, Hk.out.trans HK2.out⟩
          · have HU2 := HU.out
            rw [if_neg hlt] at HU2
            have HU2 := Lib.hid HU2
            rename_i HU20
            clear HU20 HU
            have hi8 : i ≤ 8 := by omega
            have t1 : decide ((c : Int) < 128) = false := decide_eq_false (by omega)
            clear hb
            go_wp2_with fail
            rw [HOr.out]
            have hkk := Lib.hid (Hk.out.trans HK2.out)
            go_roundw
            case rel => exact ⟨i + 1, n + c % 128 * 2 ^ (7 * i), byteS s e, 0, by omega, by go_num, rfl, HBd.out, HR2.out, hkk.out, by rw [show 10 - (i + 1) = 9 - i from by omega]; exact HU2.out⟩
            case measure => simp [intOf]; omega
    · rw [if_pos (by simpa using he)] at hu
      have HU := Lib.hid hu
      clear hu
      have hcz : byteV s e = 0 := by
        unfold byteE at he
        unfold byteV
        rw [if_pos]
        by_cases h0 : e = 0
        · right
          rcases Nat.eq_zero_or_pos s.size with h | h
          · exact h
          · exfalso; apply he; rw [if_neg (by simpa using h0), if_neg (by omega)]
        · exact Or.inl h0
      have HK0 := HK.out
      rw [hcz] at HK0
      have HK0 := Lib.hid HK0
      rename_i HK00
      clear HK00 HK hcz hc
      have hbe : (byteE s e == 0) = false := by simpa using he
      clear he
      generalize byteE s e = e' at *
      go_upto_region 7 with (first | (go_at_call 89; refine (HK0.out).mono ?_; rintro en w' ⟨rfl, hr2, hk2⟩; have c1 := hr2.c1; have HR2 := Lib.hid hr2; have HK2 := Lib.hid hk2; clear hr2 hk2))
      go_cut [32] (fun v wx => v = .bool false ∧ wx = w')
      case first =>
        by_cases i9 : i = 9
        · subst i9
          go_wp2_with fail
          go_meet
          exact ⟨rfl, rfl⟩
        · have b9 : ((i : Int) == 9) = false := by simp; omega
          by_cases i0 : i = 0
          · subst i0
            go_wp2_with fail
            go_meet
            exact ⟨rfl, rfl⟩
          · have b0 : decide ((0 : Int) < (i : Int)) = true := decide_eq_true (by omega)
            go_wp2_with fail
            go_meet
            exact ⟨rfl, rfl⟩
      case rest =>
        obtain ⟨rfl, rfl⟩ := hcut
        go_wp2_with fail
        go_ret
        exact ⟨by rw [← HU.out]; rfl, by rw [← HU.out]; exact HR2.out, Hk.out.trans HK2.out⟩
end Go.Proofs.Ytffcambjdlkfbaa
