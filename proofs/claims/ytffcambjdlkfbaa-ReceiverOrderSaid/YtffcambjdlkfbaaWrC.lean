/- Contracts of varint.Writer: Byte, Uint. -/
import Derived.Test.YtffcambjdlkfbaaWrB
namespace Go.Proofs.Ytffcambjdlkfbaa
open Go.RowKit

theorem wByte95 (B b : Nat) (bs : List UInt8) (c : UInt8) (w : World) (h : WrAt w B b bs) (hB : B ≤ w.heap.size) (hl : bs.length ≤ 100000000) :
    Calls Try.prog 95 #[ptr b, .int .u8 c.toNat] w fun e w' => e = .returned (.tuple #[]) ∧ WrAt w' B b (bs ++ [c]) ∧ Over B w w' := by
  have HK := Lib.hid (writeByte102 B b bs c w h hB hl)
  clear h
  go_enter Try.func95, Try.ntmps95
  go_wp2_with fail
  refine (HK.out).mono ?_
  rintro e w1 ⟨rfl, h1, h2⟩
  have h1 := Lib.hid h1
  have h2 := Lib.hid h2
  go_wp2_with fail
  go_end0
  exact ⟨rfl, h1.out, h2.out⟩

/-- A number's bytes. -/
def numB (n : Nat) : List UInt8 := if n < 128 then [UInt8.ofNat n] else UInt8.ofNat (n % 128 + 128) :: numB (n / 128)
termination_by n
decreasing_by omega

theorem numB_len (k : Nat) : ∀ n, n < 2 ^ (7 * (k + 1)) → (numB n).length ≤ k + 1 := by
  induction k with
  | zero => intro n hn; unfold numB; rw [if_pos (by simpa using hn)]; simp
  | succ k ih =>
    intro n hn
    unfold numB
    split
    · simp
    · have : n / 128 < 2 ^ (7 * (k + 1)) := by
        rw [show 7 * (k + 1 + 1) = 7 * (k + 1) + 7 from by omega, Nat.pow_add] at hn
        exact Nat.div_lt_of_lt_mul (by rw [Nat.mul_comm]; exact hn)
      have := ih _ this
      simp; omega

theorem or128 (n : Nat) : bits BinOp.or IntKind.u8 ((n : Int) % 256) 128 = ((n % 128 + 128 : Nat) : Int) := by
  have e : (n : Int) % 256 = ((n % 256 : Nat) : Int) := by simp
  have h := u8_or_nat (n % 256) 128 (by omega) (by omega)
  rw [e]
  refine h.trans ?_
  congr 1
  have h2 : n % 256 < 256 := by omega
  generalize n % 256 = m at *
  have h3 : m ||| 128 = m % 128 + 128 := by
    have : ∀ x : Fin 256, x.val ||| 128 = x.val % 128 + 128 := by decide +kernel
    exact this ⟨m, h2⟩
  rw [h3]
  omega

theorem wByte95_lit (B b : Nat) (bs : List UInt8) (x : Int) (c : UInt8) (w : World) (h : WrAt w B b bs) (hB : B ≤ w.heap.size) (hl : bs.length ≤ 100000000) (hx : (c.toNat : Int) = x) :
    Calls Try.prog 95 #[ptr b, .int .u8 x] w fun e w' => e = .returned (.tuple #[]) ∧ WrAt w' B b (bs ++ [c]) ∧ Over B w w' := by
  subst hx; exact wByte95 B b bs c w h hB hl

theorem ofNat_int (n : Nat) (h : n < 256) : ((UInt8.ofNat n).toNat : Int) = (n : Int) := by
  rw [UInt8.toNat_ofNat_of_lt' h]

set_option maxRecDepth 100000 in
theorem wUint77 (B b : Nat) (bs : List UInt8) (n0 : Nat) (w : World) (hn0 : n0 < 2 ^ 64) (h : WrAt w B b bs) (hB : B ≤ w.heap.size) (hl : bs.length ≤ 10000000) :
    Calls Try.prog 77 #[ptr b, .int .u64 n0] w fun e w' => e = .returned (.tuple #[]) ∧ WrAt w' B b (bs ++ numB n0) ∧ Over B w w' := by
  have hlen := numB_len 9 n0 (by omega)
  generalize hout : bs ++ numB n0 = out
  have hol : out.length ≤ 10000010 := by rw [← hout, List.length_append]; omega
  have H := Lib.hid h; clear h
  have HOut := Lib.hid hout; clear hout
  go_enter Try.func77, Try.ntmps77
  go_wp2_with fail
  go_loopw [1] (fun v wr => ∃ (n : Nat) (acc : List UInt8), v = .int .u64 n ∧ n < 2 ^ 64 ∧ WrAt wr B b acc ∧ acc ++ numB n = out ∧ Over B w wr) (fun v _ => (intOf v).toNat)
  case atStart => exact ⟨n0, bs, rfl, hn0, H.out, HOut.out, Over.refl _ _⟩
  case round =>
    obtain ⟨n, acc, rfl, hn, hw, ha, ho⟩ := hrel
    have hal : acc.length ≤ 10000010 := by rw [← ha, List.length_append] at hol; omega
    have hBr : B ≤ wr.heap.size := by obtain ⟨S, _, k⟩ := ho; exact Nat.le_trans hB k.size
    have HW := Lib.hid hw
    have HA := Lib.hid ha
    have HO := Lib.hid ho
    clear hw ha ho
    by_cases hlt : n < 128
    · have t1 : decide ((128 : Int) ≤ (n : Int)) = false := decide_eq_false (by omega)
      have hnb : numB n = [UInt8.ofNat n] := by unfold numB; rw [if_pos hlt]
      have HNB := Lib.hid hnb; clear hnb
      go_wp2_with fail
      refine (wByte95_lit B b acc _ (UInt8.ofNat n) _ HW.out hBr (by omega) (by first | exact ofNat_int n (by omega) | (rw [ofNat_int n (by omega)]; omega))).mono ?_
      rintro e w1 ⟨rfl, h1, h2⟩
      have h1 := Lib.hid h1
      have h2 := Lib.hid h2
      go_wp2_with fail
      go_end0
      exact ⟨rfl, by rw [← HA.out, HNB.out]; exact h1.out, HO.out.trans h2.out⟩
    · have t1 : decide ((128 : Int) ≤ (n : Int)) = true := decide_eq_true (by omega)
      have hor := or128 n
      have hnb : numB n = UInt8.ofNat (n % 128 + 128) :: numB (n / 128) := by rw [numB, if_neg hlt]
      have HNB := Lib.hid hnb; clear hnb
      go_wp2_with fail
      refine (wByte95_lit B b acc _ (UInt8.ofNat (n % 128 + 128)) _ HW.out hBr (by omega) (by rw [ofNat_int _ (by omega)]; simp)).mono ?_
      rintro e w1 ⟨rfl, h1, h2⟩
      have h1 := Lib.hid h1
      have h2 := Lib.hid h2
      clear hor
      go_wp2_with fail
      go_roundw
      case rel => exact ⟨n / 128, acc ++ [UInt8.ofNat (n % 128 + 128)], by go_num, by omega, h1.out, by rw [← HA.out, HNB.out]; simp, HO.out.trans h2.out⟩
      case measure => simp [intOf]; omega
end Go.Proofs.Ytffcambjdlkfbaa
