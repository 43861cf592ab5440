/- The walk of the law ReceiverPlays: true, in whatever memory, of any input. -/
import Derived.Test.YtffcambjdlkfbaaRecV
namespace Go.Proofs.Ytffcambjdlkfbaa
open Go.RowKit

set_option maxRecDepth 100000 in
theorem plays_great (ses epo tot : Int) (a : Option Addr) (len cap : Nat) (w : World) (h : 200 < len) : Calls Try.prog 6 #[.int .i64 ses, .int .i64 epo, .int .i64 tot, .slice a len cap] w (AwakePost w) := by
  have t1 : decide ((200 : Int) < (len : Int)) = true := decide_eq_true (by omega)
  go_enter Try.func6, Try.ntmps6
  go_wp2_with fail
  refine (awake14 _).mono ?_
  rintro e w1 ⟨rfl, k1⟩
  have k1 := Lib.hid k1
  go_wp2_with fail
  refine (awake14 _).mono ?_
  rintro e w2 ⟨rfl, k2⟩
  have k2 := Lib.hid k2
  go_wp2_with fail
  go_ret
  exact ⟨rfl, k1.out.trans k2.out⟩

set_option maxRecDepth 100000 in
theorem plays_no (ses epo tot : Int) (a : Option Addr) (len cap : Nat) (w : World) (h : len ≤ 200) (hm : ¬ May14 ses epo tot) : Calls Try.prog 6 #[.int .i64 ses, .int .i64 epo, .int .i64 tot, .slice a len cap] w (AwakePost w) := by
  have t1 : decide ((200 : Int) < (len : Int)) = false := decide_eq_false (by omega)
  have HM := Lib.hid hm; clear hm
  go_enter Try.func6, Try.ntmps6
  go_wp2_with fail
  refine (awake14 _).mono ?_
  rintro e w1 ⟨rfl, k1⟩
  have k1 := Lib.hid k1
  go_wp2_with fail
  refine (new47_no ses epo tot _ HM.out).mono ?_
  rintro e w2 ⟨rfl, k2⟩
  have k2 := Lib.hid k2
  go_wp2_with fail
  refine (may_lit ses epo tot false _ (decide_eq_false HM.out)).mono ?_
  rintro e w3 ⟨rfl, rfl⟩
  go_wp2_with fail
  go_ret
  exact ⟨rfl, k1.out.trans k2.out⟩

/-- What the walk is told of a list of frames that came in. -/
def IsFrmList (w : World) (a : Option Addr) (len : Nat) : Prop := ∃ fs : List Frm, len = fs.length ∧ IsFrms w a fs

theorem plays_any (ses epo tot : Int) (a : Option Addr) (len cap : Nat) (w : World) (hl : IsFrmList w a len) (hcap : len ≤ cap ∧ cap ≤ 9223372036854775807) : Calls Try.prog 6 #[.int .i64 ses, .int .i64 epo, .int .i64 tot, .slice a len cap] w (AwakePost w) := by
  by_cases h : 200 < len
  · exact plays_great ses epo tot a len cap w h
  · by_cases hm : May14 ses epo tot
    · obtain ⟨fs, rfl, hfs⟩ := hl
      unfold May14 at hm
      obtain ⟨s, rfl⟩ := Int.eq_ofNat_of_zero_le hm.1.1
      obtain ⟨e, rfl⟩ := Int.eq_ofNat_of_zero_le hm.2.1.1
      obtain ⟨n, rfl⟩ := Int.eq_ofNat_of_zero_le (show 0 ≤ tot by omega)
      exact plays_may s e n (by omega) (by omega) (by omega) (by omega) a cap fs w (by omega) hcap.1 hcap.2 hfs
    · exact plays_no ses epo tot a len cap w (by omega) hm
end Go.Proofs.Ytffcambjdlkfbaa
