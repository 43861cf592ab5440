/- Contract of sender.New where it refuses. -/
import Derived.Test.YtffcambjdlkfbaaSendD
namespace Go.Proofs.Ytffcambjdlkfbaa
open Go.RowKit

/-- What may be a sender's session, epoch and chunks. -/
def MayS (ses epo : Int) (c : List ByteArray) : Prop := (0 ≤ ses ∧ ses < 4294967296) ∧ (0 ≤ epo ∧ epo < 4294967296) ∧ longAny c = false ∧ 1 ≤ c.length ∧ c.length ≤ 256
instance (ses epo : Int) (c : List ByteArray) : Decidable (MayS ses epo c) := by unfold MayS; infer_instance

def NoPost (w : World) (e : Ending) (w' : World) : Prop := e = .returned (.tuple #[.pointer none, .int .i64 1]) ∧ w = w'

theorem sNew_zero (ses epo : Int) (a : Option Addr) (cap : Nat) (w : World) : Calls Try.prog 28 #[.int .i64 ses, .int .i64 epo, .slice a 0 cap] w (NoPost w) := by
  by_cases b0 : ses < 0
  · have d0 : decide (ses < 0) = true := by simpa using b0
    go_enter Try.func28, Try.ntmps28
    go_wp2_with fail
    refine (containsStr_zero a cap w).mono ?_
    rintro e w' ⟨rfl, rfl⟩
    go_wp2_with fail
    go_ret2
    exact ⟨rfl, rfl⟩
  have d0 : decide (ses < 0) = false := by simpa using b0
  have e0 : 0 ≤ ses := by omega
  clear b0
  by_cases b1 : 4294967296 ≤ ses
  · have d1 : decide (4294967296 ≤ ses) = true := by simpa using b1
    go_enter Try.func28, Try.ntmps28
    go_wp2_with fail
    refine (containsStr_zero a cap w).mono ?_
    rintro e w' ⟨rfl, rfl⟩
    go_wp2_with fail
    go_ret2
    exact ⟨rfl, rfl⟩
  have d1 : decide (4294967296 ≤ ses) = false := by simpa using b1
  have e1 : ses < 4294967296 := by omega
  clear b1
  by_cases b2 : epo < 0
  · have d2 : decide (epo < 0) = true := by simpa using b2
    go_enter Try.func28, Try.ntmps28
    go_wp2_with fail
    refine (containsStr_zero a cap w).mono ?_
    rintro e w' ⟨rfl, rfl⟩
    go_wp2_with fail
    go_ret2
    exact ⟨rfl, rfl⟩
  have d2 : decide (epo < 0) = false := by simpa using b2
  have e2 : 0 ≤ epo := by omega
  clear b2
  by_cases b3 : 4294967296 ≤ epo
  · have d3 : decide (4294967296 ≤ epo) = true := by simpa using b3
    go_enter Try.func28, Try.ntmps28
    go_wp2_with fail
    refine (containsStr_zero a cap w).mono ?_
    rintro e w' ⟨rfl, rfl⟩
    go_wp2_with fail
    go_ret2
    exact ⟨rfl, rfl⟩
  have d3 : decide (4294967296 ≤ epo) = false := by simpa using b3
  have e3 : epo < 4294967296 := by omega
  clear b3
  go_enter Try.func28, Try.ntmps28
  go_wp2_with fail
  refine (containsStr_zero a cap w).mono ?_
  rintro e w' ⟨rfl, rfl⟩
  go_wp2_with fail
  refine (new_no 0 _ (by omega)).mono ?_
  rintro e w' ⟨rfl, rfl⟩
  go_wp2_with fail
  go_ret2
  exact ⟨rfl, rfl⟩

theorem sNew_no (ses epo : Int) (g o cap : Nat) (c : List ByteArray) (w : World) (hcap : c.length ≤ cap) (hcm : cap ≤ 9223372036854775807) (hc : StrsAt w g o c)
    (hsz : ∀ s ∈ c, s.size ≤ 9223372036854775807) (hno : ¬ MayS ses epo c) :
    Calls Try.prog 28 #[.int .i64 ses, .int .i64 epo, .slice (some ⟨g, o, none⟩) c.length cap] w (NoPost w) := by
  have HK := Lib.hid (containsStr_some g o cap c w hcap hcm hc hsz)
  unfold MayS at hno
  clear hc hsz
  generalize longAny c = q at *
  generalize c.length = n at *
  cases q with
  | true =>
    clear hno
    by_cases b0 : ses < 0
    · have d0 : decide (ses < 0) = true := by simpa using b0
      go_enter Try.func28, Try.ntmps28
      go_wp2_with fail
      refine (HK.out).mono ?_
      rintro e w' ⟨rfl, rfl⟩
      go_wp2_with fail
      go_ret2
      exact ⟨rfl, rfl⟩
    have d0 : decide (ses < 0) = false := by simpa using b0
    have e0 : 0 ≤ ses := by omega
    clear b0
    by_cases b1 : 4294967296 ≤ ses
    · have d1 : decide (4294967296 ≤ ses) = true := by simpa using b1
      go_enter Try.func28, Try.ntmps28
      go_wp2_with fail
      refine (HK.out).mono ?_
      rintro e w' ⟨rfl, rfl⟩
      go_wp2_with fail
      go_ret2
      exact ⟨rfl, rfl⟩
    have d1 : decide (4294967296 ≤ ses) = false := by simpa using b1
    have e1 : ses < 4294967296 := by omega
    clear b1
    by_cases b2 : epo < 0
    · have d2 : decide (epo < 0) = true := by simpa using b2
      go_enter Try.func28, Try.ntmps28
      go_wp2_with fail
      refine (HK.out).mono ?_
      rintro e w' ⟨rfl, rfl⟩
      go_wp2_with fail
      go_ret2
      exact ⟨rfl, rfl⟩
    have d2 : decide (epo < 0) = false := by simpa using b2
    have e2 : 0 ≤ epo := by omega
    clear b2
    by_cases b3 : 4294967296 ≤ epo
    · have d3 : decide (4294967296 ≤ epo) = true := by simpa using b3
      go_enter Try.func28, Try.ntmps28
      go_wp2_with fail
      refine (HK.out).mono ?_
      rintro e w' ⟨rfl, rfl⟩
      go_wp2_with fail
      go_ret2
      exact ⟨rfl, rfl⟩
    have d3 : decide (4294967296 ≤ epo) = false := by simpa using b3
    have e3 : epo < 4294967296 := by omega
    clear b3
    go_enter Try.func28, Try.ntmps28
    go_wp2_with fail
    refine (HK.out).mono ?_
    rintro e w' ⟨rfl, rfl⟩
    go_wp2_with fail
    go_ret2
    exact ⟨rfl, rfl⟩
  | false =>
    have hno' : ¬ ((0 ≤ ses ∧ ses < 4294967296) ∧ (0 ≤ epo ∧ epo < 4294967296) ∧ 1 ≤ n ∧ n ≤ 256) := fun h => hno ⟨h.1, h.2.1, rfl, h.2.2⟩
    clear hno
    by_cases b0 : ses < 0
    · have d0 : decide (ses < 0) = true := by simpa using b0
      go_enter Try.func28, Try.ntmps28
      go_wp2_with fail
      refine (HK.out).mono ?_
      rintro e w' ⟨rfl, rfl⟩
      go_wp2_with fail
      go_ret2
      exact ⟨rfl, rfl⟩
    have d0 : decide (ses < 0) = false := by simpa using b0
    have e0 : 0 ≤ ses := by omega
    clear b0
    by_cases b1 : 4294967296 ≤ ses
    · have d1 : decide (4294967296 ≤ ses) = true := by simpa using b1
      go_enter Try.func28, Try.ntmps28
      go_wp2_with fail
      refine (HK.out).mono ?_
      rintro e w' ⟨rfl, rfl⟩
      go_wp2_with fail
      go_ret2
      exact ⟨rfl, rfl⟩
    have d1 : decide (4294967296 ≤ ses) = false := by simpa using b1
    have e1 : ses < 4294967296 := by omega
    clear b1
    by_cases b2 : epo < 0
    · have d2 : decide (epo < 0) = true := by simpa using b2
      go_enter Try.func28, Try.ntmps28
      go_wp2_with fail
      refine (HK.out).mono ?_
      rintro e w' ⟨rfl, rfl⟩
      go_wp2_with fail
      go_ret2
      exact ⟨rfl, rfl⟩
    have d2 : decide (epo < 0) = false := by simpa using b2
    have e2 : 0 ≤ epo := by omega
    clear b2
    by_cases b3 : 4294967296 ≤ epo
    · have d3 : decide (4294967296 ≤ epo) = true := by simpa using b3
      go_enter Try.func28, Try.ntmps28
      go_wp2_with fail
      refine (HK.out).mono ?_
      rintro e w' ⟨rfl, rfl⟩
      go_wp2_with fail
      go_ret2
      exact ⟨rfl, rfl⟩
    have d3 : decide (4294967296 ≤ epo) = false := by simpa using b3
    have e3 : epo < 4294967296 := by omega
    clear b3
    go_enter Try.func28, Try.ntmps28
    go_wp2_with fail
    refine (HK.out).mono ?_
    rintro e w' ⟨rfl, rfl⟩
    go_wp2_with fail
    refine (new_no n _ (by omega)).mono ?_
    rintro e w' ⟨rfl, rfl⟩
    go_wp2_with fail
    go_ret2
    exact ⟨rfl, rfl⟩
end Go.Proofs.Ytffcambjdlkfbaa
