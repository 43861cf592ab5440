/- The walk of the law SenderPlays where it does not play: the list or the chunks too great, or session, epoch and chunks not what may be. -/
import Derived.Test.YtffcambjdlkfbaaSendR
namespace Go.Proofs.Ytffcambjdlkfbaa
open Go.RowKit

/-- The list is too long, or a chunk is: the awake's answer. -/
theorem senderPlays_great (ses epo : Int) (ch : Value) (fw : Bool) (a : Option Addr) (len cap' : Nat) (w : World) (hf : ∀ w', Keeps [] w w' → Calls Try.prog 27 #[ch] w' fun e w'' => e = .returned (.bool fw) ∧ w' = w'') (h : fw = false ∨ 200 < len) :
    Calls Try.prog 4 #[.int .i64 ses, .int .i64 epo, ch, .slice a len cap'] w (AwakePost w) := by
  have HF := Lib.hid hf; clear hf
  cases fw with
  | false =>
    clear h
    go_enter Try.func4, Try.ntmps4
    go_wp2_with fail
    refine (awake13_true _).mono ?_
    rintro e w1 ⟨rfl, k1⟩
    have K1 := Lib.hid k1
    clear k1
    go_wp2_with fail
    refine (HF.out _ K1.out).mono ?_
    rintro e w2 ⟨rfl, rfl⟩
    go_wp2_with fail
    refine (awake13_true _).mono ?_
    rintro e w2 ⟨rfl, k2⟩
    have K2 := Lib.hid k2
    clear k2
    go_wp2_with fail
    go_ret
    exact ⟨rfl, K1.out.trans K2.out⟩
  | true =>
    have hl : 200 < len := by simpa using h
    clear h
    go_enter Try.func4, Try.ntmps4
    go_wp2_with fail
    refine (awake13_true _).mono ?_
    rintro e w1 ⟨rfl, k1⟩
    have K1 := Lib.hid k1
    clear k1
    go_wp2_with fail
    refine (HF.out _ K1.out).mono ?_
    rintro e w2 ⟨rfl, rfl⟩
    go_wp2_with fail
    refine (awake13_true _).mono ?_
    rintro e w2 ⟨rfl, k2⟩
    have K2 := Lib.hid k2
    clear k2
    go_wp2_with fail
    go_ret
    exact ⟨rfl, K1.out.trans K2.out⟩

set_option maxRecDepth 100000 in
set_option maxHeartbeats 4000000 in
theorem senderPlays_no (ses epo : Int) (g o cap : Nat) (c : List ByteArray) (a : Option Addr) (len cap' : Nat) (w : World) (hno : ¬ MayS ses epo c) (hn1 : 1 ≤ c.length) (hsz : ∀ s ∈ c, s.size ≤ 1100) (hn2 : c.length ≤ 300) (hl : len ≤ 200)
    (hcap : c.length ≤ cap) (hcapm : cap ≤ 9223372036854775807) (hc : StrsAt w g o c) (hfew : anyOver 1100 c = false) :
    Calls Try.prog 4 #[.int .i64 ses, .int .i64 epo, .slice (some ⟨g, o, none⟩) c.length cap, .slice a len cap'] w (AwakePost w) := by
  obtain ⟨i0, hi, hz0, hz1, hz2⟩ := info_parts Try.info9
  have HNo := Lib.hid hno; clear hno
  have HS1 := Lib.hid hsz; clear hsz
  have HC := Lib.hid hc; clear hc
  have HFew := Lib.hid hfew; clear hfew
  go_enter Try.func4, Try.ntmps4
  go_wp2_with fail
  refine (awake13_true _).mono ?_
  rintro e w1 ⟨rfl, k1⟩
  have k1 := Lib.hid k1
  go_wp2_with fail
  refine (rfew_some g o cap c _ hcap hcapm (HC.out.keeps k1.out (by simp)) (fun s hs => by have := HS1.out s hs; omega)).mono ?_
  rw [HFew.out]
  have hd3 : decide (c.length ≤ 300) = true := decide_eq_true (by omega)
  rw [hd3]
  clear hd3
  rintro e w2 ⟨rfl, rfl⟩
  have HNews := Lib.hid (strs_news (HC.out.keeps (k1.out.alloc (.cells #[] 9)) (by simp)))
  have HOne := Lib.hid (show ∀ u ∈ c.map Value.string, u.oneCell' = true from fun u hu => by obtain ⟨x, _, rfl⟩ := List.mem_map.1 hu; rfl)
  have HMade := Lib.hid (owns_made w1 9)
  have HKa := Lib.hid (k1.out.alloc (.cells #[] 9))
  have H3 := Lib.hid (show 0 + c.length ≤ maxLen from by unfold maxLen; omega)
  have H4 := Lib.hid (show (0 + c.length) * 16 ≤ 140737488355328 from by omega)
  have H5 := Lib.hid (show w1.heap.size ≤ (w1.alloc (.cells #[] 9)).heap.size from by simp)
  have HL1 := Lib.hid (show (c.map Value.string).length = c.length * 1 from by simp)
  go_wp2_with (first | (at_builtin; refine wpList_append_own _ rfl _ _ 44 rfl w1.heap.size 9 i0 (.string ByteArray.empty) 1 16 Try.underlying44 hi hz0 hz1 hz2 rfl (by decide) _ _ _ rfl HMade.out ⟨g, o, none⟩ c.length cap (c.map Value.string) rfl HL1.out HNews.out HOne.out H3.out H4.out H5.out ?_; intro v' w3 hown' hgrow _; have hown' := Lib.hid hown'; have hgrow := Lib.hid hgrow; obtain ⟨g2, cap2, hv, hg2⟩ := owns_some hown'.out (by omega); rw [hv]))
  have hown2 := hown'.out
  rw [hv, List.nil_append, Nat.zero_add] at hown2
  have hblk := owns_block hown2
  unfold maxLen at hblk
  have hK3 : Keeps [] w w3 := HKa.out.grown hgrow.out (fun j hj => Or.inr (by have hj' : some w1.heap.size = some j := hj; cases hj'; exact k1.out.size))
  have HK3 := Lib.hid hK3
  have hnew := sNew_no ses epo g2 0 cap2 c w3 hblk.2.2.1 hblk.2.2.2 (StrsAt.of_owns hown2) (fun s hs => by have := HS1.out s hs; omega) HNo.out
  have HNew := Lib.hid hnew
  clear hnew hown2 hK3 hblk hgrow hown' HL1 H5 H4 H3 HKa HMade HOne HNews hg2
  try rw [Nat.zero_add]
  refine (HNew.out).mono ?_
  rintro e w4 ⟨rfl, rfl⟩
  go_wp2_with fail
  refine (rmay_some ses epo g o cap c _ hcap hcapm (HC.out.keeps HK3.out (by simp)) (fun s hs => by have := HS1.out s hs; omega) false (decide_eq_false HNo.out)).mono ?_
  rintro e w5 ⟨rfl, rfl⟩
  go_wp2_with fail
  go_ret
  exact ⟨rfl, HK3.out⟩

set_option maxRecDepth 100000 in
set_option maxHeartbeats 4000000 in
theorem senderPlays_zero (ses epo : Int) (ad : Option Addr) (cap : Nat) (a : Option Addr) (len cap' : Nat) (w : World) (hl : len ≤ 200) :
    Calls Try.prog 4 #[.int .i64 ses, .int .i64 epo, .slice ad 0 cap, .slice a len cap'] w (AwakePost w) := by
  cases ad with
  | none =>
    go_enter Try.func4, Try.ntmps4
    go_wp2_with fail
    refine (awake13_true _).mono ?_
    rintro e w1 ⟨rfl, k1⟩
    have k1 := Lib.hid k1
    go_wp2_with fail
    refine (rfew_zero (none) cap _).mono ?_
    rintro e w2 ⟨rfl, rfl⟩
    go_wp2_with fail
    refine (sNew_zero ses epo _ _ _).mono ?_
    rintro e w3 ⟨rfl, rfl⟩
    go_wp2_with fail
    refine (rmay_zero ses epo (none) cap _).mono ?_
    rintro e w3 ⟨rfl, rfl⟩
    go_wp2_with fail
    go_ret
    exact ⟨rfl, k1.out.alloc _⟩
  | some x =>
    go_enter Try.func4, Try.ntmps4
    go_wp2_with fail
    refine (awake13_true _).mono ?_
    rintro e w1 ⟨rfl, k1⟩
    have k1 := Lib.hid k1
    go_wp2_with fail
    refine (rfew_zero (some x) cap _).mono ?_
    rintro e w2 ⟨rfl, rfl⟩
    go_wp2_with fail
    refine (sNew_zero ses epo _ _ _).mono ?_
    rintro e w3 ⟨rfl, rfl⟩
    go_wp2_with fail
    refine (rmay_zero ses epo (some x) cap _).mono ?_
    rintro e w3 ⟨rfl, rfl⟩
    go_wp2_with fail
    go_ret
    exact ⟨rfl, k1.out.alloc _⟩
end Go.Proofs.Ytffcambjdlkfbaa
