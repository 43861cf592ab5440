/- Contracts of strings.Builder.String and varint.Writer.String, of a writer that holds at least one byte. -/
import Derived.Test.YtffcambjdlkfbaaWrE
import Derived.Lib.UnsafeStr
namespace Go.Proofs.Ytffcambjdlkfbaa
open Go.RowKit

theorem Over.of_below {B : Nat} {w w' : World} (h : Below B w w') : Over B w w' := by
  refine ⟨(List.range w.heap.size).filter fun k => decide (B ≤ k), fun k hk => by simpa using (List.mem_filter.1 hk).2, h.os, h.tape, h.output, h.size, fun k hk hn => h.block k ?_⟩
  rcases Nat.lt_or_ge k B with h1 | h1
  · exact h1
  · exact absurd (List.mem_filter.2 ⟨by simpa using hk, by simpa using h1⟩) hn

set_option maxHeartbeats 2000000 in
set_option maxRecDepth 100000 in
theorem builderString97 (B b : Nat) (l : List UInt8) (w : World) (h : WrAt w B b l) (h0 : l ≠ []) : Calls Try.prog 97 #[ptr b] w fun e w' => e = .returned (.string ⟨l.toArray⟩) ∧ Over B w w' := by
  obtain ⟨hB, p, v, hr, _, hown, hne⟩ := h
  have hl0 : l.length ≠ 0 := by simpa using h0
  obtain ⟨g, cap, cur, rfl, hbg, hg, hnc, hcm, hcs, htake⟩ : ∃ g cap cur, v = .slice (some ⟨g, 0, none⟩) l.length cap ∧ B ≤ g ∧ w.heap[g]? = some (.cells cur 5 (0, 0)) ∧ l.length ≤ cap ∧ cap ≤ maxLen ∧ cur.size = cap * 1 ∧ cur.toList.take (l.length * 1) = u8s l := by
    rcases hown.2 with ⟨_, hz⟩ | ⟨g, cap, cur, hv, r⟩
    · exact absurd hz hl0
    · exact ⟨g, cap, cur, hv, r⟩
  have c1 : w.drew.cell? ⟨b, 1, none⟩ = some (.slice (some ⟨g, 0, none⟩) l.length cap) := by
    have := hr.drew.cell 1
    exact this
  have hSD : (Builtin.unsafeSliceData_ #[94] 144 #[.slice (some ⟨g, 0, none⟩) l.length cap]).run Try.prog w.drew = .ok (.pointer (some ⟨g, 0, none⟩)) w.drew :=
    Lib.run_unsafeSliceData_row _ _ _ _ _ _ (by omega)
  have hUS : (Builtin.unsafeString_ #[144, 3] 9 #[.pointer (some ⟨g, 0, none⟩), .int .i64 l.length]).run Try.prog w.drew = .ok (.string ⟨l.toArray⟩) (w.drew.freeze ⟨g, 0, none⟩ l.length) := by
    refine Lib.run_unsafeString_row w.drew 144 3 9 5 Try.underlying144 (by kernel_rfl) g cur.size (by have hg' : w.drew.heap[g]? = some (.cells cur 5 (0, 0)) := hg; simp [World.shape?, hg']) l h0 (by omega) (by unfold maxLen at hcm; omega) ?_
    intro j x hx
    have := hown.cells (g := g) rfl j (.int .u8 x.toNat) (by simp [u8s, hx])
    exact this
  go_enter Try.func97, Try.ntmps97
  go_wp2_with fail
  go_region
  all_goals (go_wp2_with fail; go_ret; exact ⟨rfl, Over.of_below (Lib.below_freeze (Below.drew (Below.refl B w)) (p := ⟨g, 0, none⟩) hbg _)⟩)

theorem wString79 (B b : Nat) (l : List UInt8) (w : World) (h : WrAt w B b l) (h0 : l ≠ []) : Calls Try.prog 79 #[ptr b] w fun e w' => e = .returned (.string ⟨l.toArray⟩) ∧ Over B w w' := by
  have HK := Lib.hid (builderString97 B b l w h h0)
  clear h
  go_enter Try.func79, Try.ntmps79
  go_wp2_with fail
  refine (HK.out).mono ?_
  rintro e w1 ⟨rfl, h1⟩
  have h1 := Lib.hid h1
  go_wp2_with fail
  go_ret
  exact ⟨rfl, h1.out⟩
end Go.Proofs.Ytffcambjdlkfbaa
