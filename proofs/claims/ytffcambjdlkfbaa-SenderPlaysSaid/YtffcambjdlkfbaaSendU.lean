/- Few of any chunks, and the law's walk of any input. -/
import Derived.Test.YtffcambjdlkfbaaSendT
import Derived.Test.YtffcambjdlkfbaaSendS
namespace Go.Proofs.Ytffcambjdlkfbaa
open Go.RowKit

set_option maxRecDepth 100000 in
theorem rfew_some2 (g o cap : Nat) (c : List ByteArray) (w : World) (hl : c.length ≤ cap) (hcap : cap ≤ 9223372036854775807) (hc : StrsAt w g o c) :
    Calls Try.prog 27 #[.slice (some ⟨g, o, none⟩) c.length cap] w fun e w' => e = .returned (.bool (!anyOver 1100 c && decide (c.length ≤ 300))) ∧ w = w' := by
  have HC := Lib.hid hc; clear hc
  go_enter Try.func27, Try.ntmps27
  go_wp2_with fail
  go_loop [3] (fun i => ∃ k : Nat, k ≤ c.length ∧ i = .int .i64 k ∧ (∀ j s, j < k → c[j]? = some s → s.size ≤ 1100)) (fun i => c.length - (intOf i).toNat)
  case atStart => exact ⟨0, Nat.zero_le _, rfl, fun j s hj => by omega⟩
  case round =>
    obtain ⟨k, hk, rfl, hno⟩ := hrel
    have HN := Lib.hid hno; clear hno
    by_cases hlt : k < c.length
    · have hcell := HC.out k c[k] (List.getElem?_eq_getElem hlt)
      have HY := Lib.hid (List.getElem?_eq_getElem hlt)
      have HM := Lib.hid (List.getElem_mem hlt)
      generalize c[k] = y at *
      by_cases hp : 1100 < y.size
      · have HA := Lib.hid (anyOver_yes HM.out hp)
        have hd : decide ((1100 : Int) < (y.size : Int)) = true := by simp; omega
        go_wp2_with fail
        go_ret
        exact ⟨ret_bool (by rw [HA.out]; simp), rfl⟩
      · have hd : decide ((1100 : Int) < (y.size : Int)) = false := by simp; omega
        go_wp2_with fail
        go_round
        case rel => exact ⟨k + 1, by omega, by go_num, fun j s hj hs => by
          rcases Nat.lt_or_ge j k with h | h
          · exact HN.out j s h hs
          · obtain rfl : j = k := by omega
            rw [HY.out] at hs; cases hs; omega⟩
        case measure => simp [intOf]; omega
    · obtain rfl : k = c.length := by omega
      have HA := Lib.hid (anyOver_no HN.out)
      go_wp2_with fail
      go_ret
      exact ⟨ret_bool (by rw [HA.out, Bool.eq_iff_iff]; simp; omega), rfl⟩


/-- What the walk is told of chunks that came in: there are none, or they lie here. -/
def IsStrs (w : World) (a : Option Addr) (len cap : Nat) : Prop :=
  len = 0 ∨ ∃ g o c, a = some ⟨g, o, none⟩ ∧ len = List.length (α := ByteArray) c ∧ len ≤ cap ∧ cap ≤ 9223372036854775807 ∧ StrsAt w g o c

/-- What the walk is told of a list that came in. -/
def IsList (w : World) (a : Option Addr) (len : Nat) : Prop := ∃ ops : List Op13, len = ops.length ∧ Is13 w a ops

theorem senderPlays_any (ses epo : Int) (ac : Option Addr) (lenc capc : Nat) (a : Option Addr) (len cap : Nat) (w : World) (hc : IsStrs w ac lenc capc) (hl : IsList w a len) (hcap : len ≤ cap ∧ cap ≤ 9223372036854775807) :
    Calls Try.prog 4 #[.int .i64 ses, .int .i64 epo, .slice ac lenc capc, .slice a len cap] w (AwakePost w) := by
  rcases hc with rfl | ⟨g, o, c, rfl, rfl, h1, h2, h3⟩
  · by_cases h : 200 < len
    · exact senderPlays_great ses epo _ true a len cap w (fun w' _ => rfew_zero ac capc w') (Or.inr h)
    · exact senderPlays_zero ses epo ac capc a len cap w (by omega)
  · by_cases hn0 : c.length = 0
    · rw [hn0]
      by_cases h : 200 < len
      · exact senderPlays_great ses epo _ true a len cap w (fun w' _ => rfew_zero _ capc w') (Or.inr h)
      · exact senderPlays_zero ses epo _ capc a len cap w (by omega)
    · generalize hfw : (!anyOver 1100 c && decide (c.length ≤ 300)) = fw
      have hfew : ∀ w', Keeps [] w w' → Calls Try.prog 27 #[.slice (some ⟨g, o, none⟩) c.length capc] w' fun e w'' => e = .returned (.bool fw) ∧ w' = w'' := fun w' k => by
        rw [← hfw]; exact rfew_some2 g o capc c w' h1 h2 (h3.keeps k (by simp))
      by_cases h : fw = false ∨ 200 < len
      · exact senderPlays_great ses epo _ fw a len cap w hfew h
      · have hfw2 : fw = true := by
          cases fw with
          | true => rfl
          | false => exact absurd (Or.inl rfl) h
        rw [hfw2] at hfw
        have hf1 : anyOver 1100 c = false := by
          cases e : anyOver 1100 c with
          | false => rfl
          | true => rw [e] at hfw; simp at hfw
        have hf2 : c.length ≤ 300 := by rw [hf1] at hfw; simpa using hfw
        by_cases hm : MayS ses epo c
        · obtain ⟨ops, rfl, h5⟩ := hl
          exact senderPlays_may ses epo g o capc c a cap ops w hm hf1 (by omega) hcap.1 hcap.2 h1 h2 h3 h5
        · exact senderPlays_no ses epo g o capc c a len cap w hm (by omega) (few_of hf1) hf2 (by omega) h1 h2 h3 hf1
end Go.Proofs.Ytffcambjdlkfbaa
