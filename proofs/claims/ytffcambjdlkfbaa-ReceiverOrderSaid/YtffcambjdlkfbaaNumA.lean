/- Contracts of the reference of layer 1: Number, Text. -/
import Derived.Test.YtffcambjdlkfbaaWrF
namespace Go.Proofs.Ytffcambjdlkfbaa
open Go.RowKit

theorem byte_string (u : World) (b x : Nat) (h : RowAt u b 5 [.int .u8 (x : Int)]) : (convert 94 9 (.slice (some ⟨b, 0, none⟩) 1 1)).run Try.prog u = .ok (.string ⟨#[UInt8.ofNat x]⟩) u := by
  have h2 := convert_row (P := Try.prog) 94 5 Try.underlying94 Try.underlying5 9 Try.underlying9 u b 5 [x] 1 (by simpa [byteVals] using h)
  simpa using h2

set_option maxRecDepth 100000 in
theorem number83_small (n : Nat) (hn : n < 128) (w : World) : Calls Try.prog 83 #[.int .u64 n] w fun e w' => e = .returned (.string ⟨(numB n).toArray⟩) ∧ Keeps [] w w' := by
  have hnb : numB n = [UInt8.ofNat n] := by unfold numB; rw [if_pos hn]
  rw [hnb]
  have hc := byte_string (w.alloc (.cells #[.int .u8 (n : Int)] 5)) w.heap.size n (RowAt.new w 5 [.int .u8 (n : Int)])
  have t1 : decide ((n : Int) < 128) = true := decide_eq_true (by omega)
  clear hnb
  go_enter Try.func83, Try.ntmps83
  go_wp2_with fail
  go_ret
  exact ⟨rfl, (Keeps.refl [] w).alloc _⟩

set_option maxRecDepth 100000 in
set_option maxHeartbeats 2000000 in
theorem number83_step (n : Nat) (hn : ¬ n < 128) (hn2 : n < 2 ^ 64) (ih : ∀ w, Calls Try.prog 83 #[.int .u64 (n / 128 : Nat)] w fun e w' => e = .returned (.string ⟨(numB (n / 128)).toArray⟩) ∧ Keeps [] w w') (w : World) :
    Calls Try.prog 83 #[.int .u64 n] w fun e w' => e = .returned (.string ⟨(numB n).toArray⟩) ∧ Keeps [] w w' := by
  have hnb : numB n = UInt8.ofNat (n % 128 + 128) :: numB (n / 128) := by rw [numB, if_neg hn]
  have HNB := Lib.hid hnb; clear hnb
  have hlen := numB_len 9 (n / 128) (by omega)
  have IH := Lib.hid ih; clear ih
  have t1 : decide ((n : Int) < 128) = false := decide_eq_false (by omega)
  go_enter Try.func83, Try.ntmps83
  go_wp2_with fail
  generalize hq : numB (n / 128) = rest at *
  have hx : ((n : Int) % 128 + 128) = ((n % 128 + 128 : Nat) : Int) := by simp
  have hb1 : IntKind.u8.wrap (IntKind.u8.wrap ((n : Int).tmod 128) + 128) = (n : Int) % 128 + 128 := by
    rw [Int.tmod_eq_emod_of_nonneg (Int.natCast_nonneg _), IntKind.wrap_u8, IntKind.wrap_u8]; omega
  have hb2 : IntKind.u64.wrap ((n : Int) / 128) = (n : Int) / 128 := by rw [IntKind.wrap_u64]; omega
  have hA := byte_string (w.alloc (.cells #[.int .u8 ((n : Int) % 128 + 128)] 5)).drew w.heap.size (n % 128 + 128) (by rw [← hx]; exact (RowAt.new w 5 [.int .u8 ((n : Int) % 128 + 128)]).drew)
  have IH2 := Lib.hid (show ∀ w, Calls Try.prog 83 #[.int .u64 ((n : Int) / 128)] w fun e w' => e = .returned (.string ⟨rest.toArray⟩) ∧ Keeps [] w w' from fun w => IH.out w)
  have HX := Lib.hid hx; clear hx
  go_region_with (first
    | (go_at_call 83; refine (IH2.out _).mono ?_; rintro e w' ⟨rfl, hk⟩; have hB := byte_string (w'.alloc (.cells #[.int .u8 ((n : Int) % 128 + 128)] 5)) w'.heap.size (n % 128 + 128) (by rw [← HX.out]; exact RowAt.new w' 5 [.int .u8 ((n : Int) % 128 + 128)]); (try have hC := byte_string w' w.heap.size (n % 128 + 128) (by rw [← HX.out]; exact (RowAt.new w 5 [.int .u8 ((n : Int) % 128 + 128)]).drew.keeps hk (by simp))); have hk := Lib.hid hk))
  all_goals
    go_wp2_with fail
    go_ret
    refine ⟨?_, ?_⟩
    · rw [HNB.out]
      have e : (({ data := #[UInt8.ofNat (n % 128) + 128] } : ByteArray) ++ { data := rest.toArray }) = ⟨(UInt8.ofNat (n % 128 + 128) :: rest).toArray⟩ := by
        apply ByteArray.ext
        rw [ByteArray.data_append]
        simp
      show Ending.returned (Value.string (({ data := #[UInt8.ofNat (n % 128) + 128] } : ByteArray) ++ { data := rest.toArray })) = _
      rw [e]
    · first
      | exact (((Keeps.refl [] w).alloc _).drew).trans hk.out
      | exact ((Keeps.refl [] w).drew.trans hk.out).alloc _
      | exact (((Keeps.refl [] w).drew.trans hk.out).alloc _).drew

theorem number83_any (k : Nat) : ∀ n, n ≤ k → n < 2 ^ 64 → ∀ w, Calls Try.prog 83 #[.int .u64 n] w fun e w' => e = .returned (.string ⟨(numB n).toArray⟩) ∧ Keeps [] w w' := by
  induction k with
  | zero => intro n hk _ w; exact number83_small n (by omega) w
  | succ k ih =>
    intro n hk hn w
    by_cases h : n < 128
    · exact number83_small n h w
    · exact number83_step n h hn (ih (n / 128) (by omega) (by omega)) w
end Go.Proofs.Ytffcambjdlkfbaa
