/- The reference of layer 13 (signpostref13): SameFrames of two lists that read alike. -/
import Derived.Test.YtffcambjdlkfbaaSendL
namespace Go.Proofs.Ytffcambjdlkfbaa
open Go.RowKit

theorem framesV_length (σ : Snd) (ds : List Int) : (framesV σ ds).length = 6 * ds.length := by
  induction ds with
  | nil => rfl
  | cons d r ih => unfold framesV at ih ⊢; rw [List.flatMap_cons, List.length_append, ih]; simp [frameV]; omega

theorem framesV_get (σ : Snd) (ds : List Int) (k j : Nat) (hk : k < ds.length) (u : Value) (hu : (frameV σ (ds.getD k 0))[j]? = some u) : (framesV σ ds)[k * 6 + j]? = some u := by
  have e : ds = ds.take k ++ (ds.getD k 0 :: ds.drop (k + 1)) := by
    rw [List.getD_eq_getElem?_getD, List.getElem?_eq_getElem hk]
    exact (List.take_append_drop k ds).symm.trans (by rw [List.drop_eq_getElem_cons hk]; rfl)
  have hj : j < 6 := by
    have := (List.getElem?_eq_some_iff.1 hu).1
    simpa [frameV] using this
  have hl : (framesV σ (ds.take k)).length = k * 6 := by rw [framesV_length, List.length_take]; omega
  generalize ds.getD k 0 = d at *
  rw [e]
  unfold framesV at hl ⊢
  rw [List.flatMap_append, List.flatMap_cons, List.getElem?_append_right (by omega), hl, show k * 6 + j - k * 6 = j from by omega, List.getElem?_append_left (by simp [frameV]; omega)]
  exact hu

/-- What a list of frames reads as. -/
def FrsAt (w : World) (v : Value) (σ : Snd) (ds : List Int) : Prop :=
  (v = .slice none 0 0 ∧ ds = []) ∨
  ∃ g cap, v = .slice (some ⟨g, 0, none⟩) ds.length cap ∧ ds.length ≤ cap ∧ cap ≤ 9223372036854775807 ∧ ∀ k j u, k < ds.length → (frameV σ (ds.getD k 0))[j]? = some u → w.cell? ⟨g, k * 6 + j, none⟩ = some u

theorem FrsAt.of_owns {w : World} {B : Nat} {v : Value} {σ : Snd} {ds : List Int} (h : w.ownsRow B 54 6 v ds.length (framesV σ ds)) : FrsAt w v σ ds := by
  have hc := fun g hg => h.cells (g := g) hg
  obtain ⟨h1, h2⟩ := h
  rcases h2 with ⟨rfl, h0⟩ | ⟨g, cap, cur, rfl, hb, hg, hn, hm, _⟩
  · exact .inl ⟨rfl, List.length_eq_zero_iff.1 h0⟩
  · refine .inr ⟨g, cap, rfl, hn, by unfold maxLen at hm; exact hm, fun k j u hk hu => ?_⟩
    have := hc g rfl (k * 6 + j) u (framesV_get σ ds k j hk u hu)
    have e : (⟨g, 0, none⟩ : Addr).add (k * 6 + j) = ⟨g, k * 6 + j, none⟩ := by unfold Addr.add; split <;> simp_all
    rwa [e] at this

theorem sameFrames_nil (w : World) : Calls Try.prog 33 #[.slice none 0 0, .slice none 0 0] w fun e w' => e = .returned (.bool true) ∧ ∃ n, w.drewN n = w' := by
  go_enter Try.func33, Try.ntmps33
  go_wp2_with fail
  refine wp_loop_rounds 1 ?_
  rw [rounds_succ]
  go_wp2_with fail
  go_ret
  exact ⟨rfl, 0, rfl⟩

theorem sameFrames_mixed1 (a : Option Addr) (c : Nat) (w : World) : Calls Try.prog 33 #[.slice none 0 0, .slice a 0 c] w fun e w' => e = .returned (.bool true) ∧ ∃ n, w.drewN n = w' := by
  go_enter Try.func33, Try.ntmps33
  go_wp2_with fail
  refine wp_loop_rounds 1 ?_
  rw [rounds_succ]
  go_wp2_with fail
  go_ret
  exact ⟨rfl, 0, rfl⟩
theorem sameFrames_mixed2 (a : Option Addr) (c : Nat) (w : World) : Calls Try.prog 33 #[.slice a 0 c, .slice none 0 0] w fun e w' => e = .returned (.bool true) ∧ ∃ n, w.drewN n = w' := by
  go_enter Try.func33, Try.ntmps33
  go_wp2_with fail
  refine wp_loop_rounds 1 ?_
  rw [rounds_succ]
  go_wp2_with fail
  go_ret
  exact ⟨rfl, 0, rfl⟩

set_option maxRecDepth 100000 in
theorem sameFrames_some (g cap g' cap' : Nat) (σ : Snd) (ds : List Int) (w : World) (hl : ds.length ≤ 1000)
    (h3 : ∀ k j u, k < ds.length → (frameV σ (ds.getD k 0))[j]? = some u → w.cell? ⟨g, k * 6 + j, none⟩ = some u) (h4 : ∀ k j u, k < ds.length → (frameV σ (ds.getD k 0))[j]? = some u → w.cell? ⟨g', k * 6 + j, none⟩ = some u) :
    Calls Try.prog 33 #[.slice (some ⟨g, 0, none⟩) ds.length cap, .slice (some ⟨g', 0, none⟩) ds.length cap'] w fun e w' => e = .returned (.bool true) ∧ ∃ n, w.drewN n = w' := by
  have HC := Lib.hid h3; clear h3
  have HD := Lib.hid h4; clear h4
  go_enter Try.func33, Try.ntmps33
  go_wp2_with fail
  go_loopw [5] (fun i wr => ∃ k : Nat, k ≤ ds.length ∧ i = .int .i64 k ∧ ∃ n, w.drewN n = wr) (fun i _ => ds.length - (intOf i).toNat)
  case atStart => exact ⟨0, Nat.zero_le _, rfl, 0, rfl⟩
  case round =>
    obtain ⟨k, hk, rfl, n, rfl⟩ := hrel
    by_cases hlt : k < ds.length
    · have f0 := HC.out k 0 _ hlt rfl
      have f1 := HC.out k 1 _ hlt rfl
      have f2 := HC.out k 2 _ hlt rfl
      have f3 := HC.out k 3 _ hlt rfl
      have f4 := HC.out k 4 _ hlt rfl
      have f5 := HC.out k 5 _ hlt rfl
      have r0 := HD.out k 0 _ hlt rfl
      have r1 := HD.out k 1 _ hlt rfl
      have r2 := HD.out k 2 _ hlt rfl
      have r3 := HD.out k 3 _ hlt rfl
      have r4 := HD.out k 4 _ hlt rfl
      have r5 := HD.out k 5 _ hlt rfl
      rw [Nat.add_zero] at f0 r0
      generalize σ.c.getD (ds.getD k 0).toNat ByteArray.empty = st at *
      generalize ds.getD k 0 = d at *
      generalize σ.ses = ses at *
      generalize σ.epo = epo at *
      generalize σ.c.length = cl at *
      go_wp2_with fail
      go_quiet (fail)
      go_wp2_with fail
      go_roundw
      case rel => exact ⟨k + 1, by omega, by go_num, n + nq, rfl⟩
      case measure => simp [intOf]; omega
    · obtain rfl : k = ds.length := by omega
      go_wp2_with fail
      go_ret
      exact ⟨rfl, n, rfl⟩

theorem sameFrames_yes (v u : Value) (σ : Snd) (ds : List Int) (w : World) (hl : ds.length ≤ 1000) (hv : FrsAt w v σ ds) (hu : FrsAt w u σ ds) :
    Calls Try.prog 33 #[v, u] w fun e w' => e = .returned (.bool true) ∧ ∃ n, w.drewN n = w' := by
  rcases hv with ⟨rfl, h0⟩ | ⟨g, cap, rfl, h1, h2, h3⟩
  · rcases hu with ⟨rfl, _⟩ | ⟨g', cap', rfl, h1', h2', h3'⟩
    · exact sameFrames_nil w
    · subst h0
      exact sameFrames_mixed1 _ _ w
  · rcases hu with ⟨rfl, h0⟩ | ⟨g', cap', rfl, h1', h2', h3'⟩
    · subst h0
      exact sameFrames_mixed2 _ _ w
    · exact sameFrames_some g cap g' cap' σ ds w hl h3 h3'
end Go.Proofs.Ytffcambjdlkfbaa
