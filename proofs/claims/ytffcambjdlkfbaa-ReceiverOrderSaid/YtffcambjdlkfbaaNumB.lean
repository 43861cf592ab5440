/- Contract of the reference of layer 1: Text. -/
import Derived.Test.YtffcambjdlkfbaaNumA
namespace Go.Proofs.Ytffcambjdlkfbaa
open Go.RowKit

theorem rtext84 (s : ByteArray) (w : World) (hs : s.size ≤ 1000000) : Calls Try.prog 84 #[.string s] w fun e w' => e = .returned (.string ⟨(textB s).toArray⟩) ∧ Keeps [] w w' := by
  have HK := Lib.hid (number83_any s.size s.size (Nat.le_refl _) (by omega))
  have hlen := numB_len 9 s.size (by omega)
  unfold textB
  generalize numB s.size = nb at *
  go_enter Try.func84, Try.ntmps84
  go_wp2_with fail
  refine (HK.out _).mono ?_
  rintro e w' ⟨rfl, hk⟩
  have hk := Lib.hid hk
  have h1 : (⟨nb.toArray⟩ : ByteArray).size = nb.length := by simp [ByteArray.size]
  go_wp2_with fail
  go_ret
  refine ⟨?_, hk.out⟩
  have e : ((⟨nb.toArray⟩ : ByteArray) ++ s) = ⟨(nb ++ s.data.toList).toArray⟩ := by
    apply ByteArray.ext
    rw [ByteArray.data_append]
    simp
  show Ending.returned (Value.string ((⟨nb.toArray⟩ : ByteArray) ++ s)) = _
  rw [e]
end Go.Proofs.Ytffcambjdlkfbaa
