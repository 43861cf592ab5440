/- Contracts of varint.Writer: Raw, Text. -/
import Derived.Test.YtffcambjdlkfbaaWrD
namespace Go.Proofs.Ytffcambjdlkfbaa
open Go.RowKit

theorem wRaw96 (B b : Nat) (bs : List UInt8) (s : ByteArray) (w : World) (h : WrAt w B b bs) (hB : B ≤ w.heap.size) (hl : bs.length ≤ 100000000) (hs : s.size ≤ 100000000) :
    Calls Try.prog 96 #[ptr b, .string s] w fun e w' => e = .returned (.tuple #[]) ∧ WrAt w' B b (bs ++ s.data.toList) ∧ Over B w w' := by
  have HK := Lib.hid (writeString101 B b bs s w h hB hl hs)
  clear h
  go_enter Try.func96, Try.ntmps96
  go_wp2_with fail
  refine (HK.out).mono ?_
  rintro e w1 ⟨rfl, h1, h2⟩
  have h1 := Lib.hid h1
  have h2 := Lib.hid h2
  go_wp2_with fail
  go_end0
  exact ⟨rfl, h1.out, h2.out⟩

/-- A text's bytes. -/
def textB (s : ByteArray) : List UInt8 := numB s.size ++ s.data.toList

theorem Over.size {B : Nat} {w w' : World} (h : Over B w w') : w.heap.size ≤ w'.heap.size := by obtain ⟨S, _, k⟩ := h; exact k.size

theorem wText78 (B b : Nat) (bs : List UInt8) (s : ByteArray) (w : World) (h : WrAt w B b bs) (hB : B ≤ w.heap.size) (hl : bs.length ≤ 1000000) (hs : s.size ≤ 1000000) :
    Calls Try.prog 78 #[ptr b, .string s] w fun e w' => e = .returned (.tuple #[]) ∧ WrAt w' B b (bs ++ textB s) ∧ Over B w w' := by
  have HK := Lib.hid (wUint77 B b bs s.size w (by omega) h hB (by omega))
  have hlen := numB_len 9 s.size (by omega)
  clear h
  go_enter Try.func78, Try.ntmps78
  go_wp2_with fail
  refine (HK.out).mono ?_
  rintro e w1 ⟨rfl, h1, h2⟩
  have hB1 := Nat.le_trans hB h2.size
  have h2 := Lib.hid h2
  have HK2 := Lib.hid (wRaw96 B b _ s w1 h1 hB1 (by rw [List.length_append]; omega) (by omega))
  clear h1
  go_wp2_with fail
  refine (HK2.out).mono ?_
  rintro e w2 ⟨rfl, h3, h4⟩
  have h3 := Lib.hid h3
  have h4 := Lib.hid h4
  go_wp2_with fail
  go_end0
  exact ⟨rfl, by unfold textB; rw [← List.append_assoc]; exact h3.out, h2.out.trans h4.out⟩
end Go.Proofs.Ytffcambjdlkfbaa
