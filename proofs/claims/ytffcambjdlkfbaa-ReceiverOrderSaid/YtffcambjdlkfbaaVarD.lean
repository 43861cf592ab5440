/- Contract of the reference reader's Uint (signpostref01). -/
import Derived.Test.YtffcambjdlkfbaaVarC
namespace Go.Proofs.Ytffcambjdlkfbaa
open Go.RowKit

theorem add_uint (n c i : Nat) (hn : n < 2 ^ (7 * i)) (hi : i ≤ 9) (h9 : i = 9 → c ≤ 1) :
    IntKind.u64.wrap ((n : Int) + IntKind.u64.wrap ((c : Int) % 128 * 2 ^ (7 * i))) = ((n + c % 128 * 2 ^ (7 * i) : Nat) : Int) := by
  have e3 : ((2 : Int) ^ (7 * i)) = ((2 ^ (7 * i) : Nat) : Int) := by simp
  have e1 : ((c : Int) % 128) = ((c % 128 : Nat) : Int) := by simp
  have hd : n + c % 128 * 2 ^ (7 * i) < 2 ^ 64 := by
    by_cases h : i = 9
    · have := h9 h
      have hM : 2 ^ (7 * i) ≤ 2 ^ 63 := Nat.pow_le_pow_right (by omega) (by omega)
      have hc1 : c % 128 ≤ 1 := by omega
      have := Nat.mul_le_mul_right (2 ^ (7 * i)) hc1
      omega
    · have hM2 : 2 ^ (7 * i) ≤ 2 ^ 56 := Nat.pow_le_pow_right (by omega) (by omega)
      have hc1 : c % 128 ≤ 127 := by omega
      have := Nat.mul_le_mul_right (2 ^ (7 * i)) hc1
      omega
  rw [e1, e3, ← Int.natCast_mul, IntKind.wrap_u64, IntKind.wrap_u64]
  generalize c % 128 * 2 ^ (7 * i) = y at *
  omega

set_option maxRecDepth 100000 in
set_option maxHeartbeats 4000000 in
theorem uint74 (b : Nat) (s0 : ByteArray) (e0 : Int) (w : World) (h : RdAt w b 116 s0 e0) (R : Nat × ByteArray × Int) (hR : uintR 10 0 0 s0 e0 = R) :
    Calls Try.prog 74 #[ptr b] w fun en w' => en = .returned (.int .u64 R.1) ∧ RdAt w' b 116 R.2.1 R.2.2 ∧ Keeps [b] w w' := by
  have H := Lib.hid h; clear h
  have HR := Lib.hid hR; clear hR
  go_enter Try.func74, Try.ntmps74
  go_wp2_with fail
  go_loopw [3, 4] (fun v c wr => ∃ (i n : Nat) (s : ByteArray) (e : Int), i ≤ 9 ∧ c = .int .i64 i ∧ v = .int .u64 n ∧ n < 2 ^ (7 * i) ∧ RdAt wr b 116 s e ∧ Keeps [b] w wr ∧ uintR (10 - i) i n s e = R) (fun _ c _ => 10 - (intOf c).toNat)
  case atStart => exact ⟨0, 0, s0, e0, by omega, rfl, rfl, by decide, H.out, Keeps.refl _ _, HR.out⟩
  case round =>
    obtain ⟨i, n, s, e, hi, rfl, rfl, hn, hr, hk, hu⟩ := hrel
    have HK := Lib.hid (byte92 b s e wr hr)
    have hc := byteV_lt s e
    rw [show 10 - i = (9 - i) + 1 from by omega] at hu
    unfold uintR at hu
    have Hk := Lib.hid hk
    clear hk hr
    by_cases he : byteE s e = 0
    · have HK0 := HK.out
      rw [he] at HK0
      have HK0 := Lib.hid HK0
      rename_i HK00
      clear HK00 HK
      generalize hcv : byteV s e = c at *
      by_cases h9 : i = 9 ∧ 1 < c
      · have hbad : (i = 9 ∧ 1 < c) ∨ (0 < i ∧ c = 0) := Or.inl h9
        rw [if_neg (by simpa using he), if_pos hbad] at hu
        have HU := Lib.hid hu
        clear hu hbad
        obtain ⟨i9, c9⟩ := h9
        have b1 : decide ((1 : Int) < (c : Int)) = true := decide_eq_true (by omega)
        subst i9
        go_wp2_with (first | (go_at_call 92; refine (HK0.out).mono ?_; rintro en w' ⟨rfl, hr2, hk2⟩; have c1 := hr2.c1; have HR2 := Lib.hid hr2; have HK2 := Lib.hid hk2; clear hr2 hk2))
        refine (fail93 b _ 0 4 _ HR2.out).mono ?_
        rintro en w'' ⟨rfl, hr3, hk3⟩
        rw [show failE 0 4 = 4 from rfl] at hr3
        have HR3 := Lib.hid hr3
        have HK3 := Lib.hid hk3
        clear hr3 hk3
        go_wp2_with fail
        go_ret
        exact ⟨by rw [← HU.out]; rfl, by rw [← HU.out]; exact HR3.out, (Hk.out.trans HK2.out).trans HK3.out⟩
      · have h9c : i = 9 → c ≤ 1 := fun h => by
          rcases Nat.lt_or_ge 1 c with h1 | h1
          · exact absurd ⟨h, h1⟩ h9
          · exact h1
        have HAd := Lib.hid (add_uint n c i hn hi h9c)
        have HBd := Lib.hid (uint_bound n c i hn)
        have HU := Lib.hid hu
        clear hu
        go_upto_region 8 with (first | (go_at_call 92; refine (HK0.out).mono ?_; rintro en w' ⟨rfl, hr2, hk2⟩; have c1 := hr2.c1; have HR2 := Lib.hid hr2; have HK2 := Lib.hid hk2; clear hr2 hk2))
        go_cut [22] (fun v wx => v = .bool false ∧ wx = w')
        case first =>
          by_cases i9 : i = 9
          · have b1 : decide ((1 : Int) < (c : Int)) = false := decide_eq_false (by omega)
            subst i9
            go_wp2_with fail
            go_meet
            exact ⟨rfl, rfl⟩
          · have b9 : ((i : Int) == 9) = false := by simp; omega
            go_wp2_with fail
            go_meet
            exact ⟨rfl, rfl⟩
        case rest =>
          obtain ⟨rfl, rfl⟩ := hcut
          by_cases hlt : c < 128
          · have t1 : decide ((c : Int) < 128) = true := decide_eq_true (by omega)
            by_cases hb : 0 < i ∧ c = 0
            · have hu := HU.out
              rw [if_neg (by simpa using he), if_pos (Or.inr hb)] at hu
              have HU2 := Lib.hid hu
              clear hu HU
              obtain ⟨i0, c0⟩ := hb
              have b0 : decide ((0 : Int) < (i : Int)) = true := decide_eq_true (by omega)
              subst c0
              go_wp2_with fail
              refine (fail93 b _ 0 4 _ HR2.out).mono ?_
              rintro en w'' ⟨rfl, hr3, hk3⟩
              rw [show failE 0 4 = 4 from rfl] at hr3
              have HR3 := Lib.hid hr3
              have HK3 := Lib.hid hk3
              clear hr3 hk3
              go_wp2_with fail
              go_ret
              exact ⟨by rw [← HU2.out]; rfl, by rw [← HU2.out]; exact HR3.out, (Hk.out.trans HK2.out).trans HK3.out⟩
            · have hu := HU.out
              rw [if_neg (by simpa using he), if_neg (fun h => by rcases h with h | h; exact h9 h; exact hb h), if_pos hlt] at hu
              have HU2 := Lib.hid hu
              clear hu HU h9
              by_cases i0 : i = 0
              · subst i0
                clear hb
                go_wp2_with fail
                go_ret
                exact ⟨by rw [← HU2.out]; exact ret_u64 (by simp), by rw [← HU2.out]; exact HR2.out, Hk.out.trans HK2.out⟩
              · have b0 : decide ((0 : Int) < (i : Int)) = true := decide_eq_true (by omega)
                have c0 : ((c : Int) == 0) = false := by simp; omega
                clear hb
                go_wp2_with fail
                go_ret
                exact ⟨by rw [← HU2.out]; exact ret_u64 HAd.out, by rw [← HU2.out]; exact HR2.out, Hk.out.trans HK2.out⟩
          · have hu := HU.out
            rw [if_neg (by simpa using he), if_neg (fun h => by rcases h with h | h; exact h9 h; omega), if_neg hlt] at hu
            have HU2 := Lib.hid hu
            clear hu HU h9
            have hi8 : i ≤ 8 := by omega
            have t1 : decide ((c : Int) < 128) = false := decide_eq_false (by omega)
            go_wp2_with fail
            rw [HAd.out]
            have hkk := Lib.hid (Hk.out.trans HK2.out)
            go_roundw
            case rel => exact ⟨i + 1, n + c % 128 * 2 ^ (7 * i), byteS s e, 0, by omega, by go_num, rfl, HBd.out, HR2.out, hkk.out, by rw [show 10 - (i + 1) = 9 - i from by omega]; exact HU2.out⟩
            case measure => simp [intOf]; omega
    · rw [if_pos (by simpa using he)] at hu
      have HU := Lib.hid hu
      clear hu
      have hbe : (byteE s e == 0) = false := by simpa using he
      clear he
      generalize byteE s e = e' at *
      go_wp2_with (first | (go_at_call 92; refine (HK.out).mono ?_; rintro en w' ⟨rfl, hr2, hk2⟩; have c1 := hr2.c1; have HR2 := Lib.hid hr2; have HK2 := Lib.hid hk2; clear hr2 hk2))
      go_ret
      exact ⟨by rw [← HU.out]; rfl, by rw [← HU.out]; exact HR2.out, Hk.out.trans HK2.out⟩
end Go.Proofs.Ytffcambjdlkfbaa
