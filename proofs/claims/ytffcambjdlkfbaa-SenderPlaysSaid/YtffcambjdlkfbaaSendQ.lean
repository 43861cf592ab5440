/- The walk of signpostlaw13's awake. -/
import Derived.Test.YtffcambjdlkfbaaSendP
namespace Go.Proofs.Ytffcambjdlkfbaa
open Go.RowKit

theorem abc_at (w : World) : StrsAt (w.alloc (.cells #[.string ⟨#[97]⟩, .string ⟨#[98]⟩, .string ⟨#[99]⟩] 9)) w.heap.size 0 abc := fun i s hs => by
  have r := RowAt.new w 9 [.string ⟨#[97]⟩, .string ⟨#[98]⟩, .string ⟨#[99]⟩]
  have e := r.cell (0 + i)
  rw [Nat.zero_add] at e ⊢
  refine e.trans ?_
  match i, hs with
  | 0, hs => unfold abc at hs; simp at hs; subst hs; rfl
  | 1, hs => unfold abc at hs; simp at hs; subst hs; rfl
  | 2, hs => unfold abc at hs; simp at hs; subst hs; rfl
  | n + 3, hs => unfold abc at hs; simp at hs

set_option maxRecDepth 100000 in
set_option maxHeartbeats 4000000 in
theorem awake13_true (w : World) : Calls Try.prog 26 #[] w fun e w' => e = .returned (.bool true) ∧ Keeps [] w w' := by
  have hnew := sNew_yes 7 8 w.heap.size 0 3 abc _ (by decide) (by decide) (by decide) (by decide) (abc_at w) (by intro s hs; unfold abc at hs; simp at hs; rcases hs with rfl | rfl | rfl <;> decide) (by decide) (by decide) (by decide) (by decide)
  have HN := Lib.hid hnew; clear hnew
  go_enter Try.func26, Try.ntmps26
  go_wp2_with fail
  refine (HN.out).mono ?_
  rintro e w1 ⟨β, rfl, s0, hnd, hge, k0⟩
  have s0 : SndAt w1 β (sA [false, false, false] [0, 0, 0] [0, 0, 0] 0) := s0
  have HND := Lib.hid hnd; clear hnd
  have hall := Lib.hid (fun x hx => s0.all_lt snd0_ok x hx)
  have K0 := Lib.hid (show Keeps [] w w1 from ((Keeps.refl [] w).alloc _).trans k0); clear k0
  have hge2 := Lib.hid (show ∀ x ∈ β.all, w.heap.size ≤ x from fun x hx => Nat.le_trans (by simp) (hge x hx)); clear hge
  have o0 := Lib.hid snd0_ok
  have hfoot := Lib.hid (show ∀ x ∈ β.foot, x ∈ β.all from fun x hx => by unfold SBlk.foot at hx; unfold SBlk.all; simp at hx ⊢; omega)
  have hz := Lib.hid s0; clear s0
  have KA := Lib.hid (Keeps.refl β.all w1)
  go_wp2_with fail
  refine (sNew_zero 7 8 none 0 _).mono ?_
  rintro e w1 ⟨rfl, rfl⟩
  go_wp2_with fail
  refine (tick_lit β _ _ hz.out o0.out HND.out (by decide) _ _ _ t1).mono ?_
  rintro e x1 ⟨v1, rfl, h1, s1, g1, o1⟩
  obtain ⟨a1, c1, rfl, _, _⟩ := h1.form (by decide)
  clear h1
  have S1 := Lib.hid s1
  have O1 := Lib.hid o1
  have K1 := Lib.hid (KA.out.trans (g1.mono hfoot.out))
  clear s1 g1 o1
  go_wp2_with fail
  refine (tick_lit β _ _ S1.out O1.out HND.out (by decide) _ _ _ t2).mono ?_
  rintro e x2 ⟨v2, rfl, h2, s2, g2, o2⟩
  obtain ⟨a2, c2, rfl⟩ := owns_zero h2
  clear h2
  have S2 := Lib.hid s2
  have O2 := Lib.hid o2
  have K2 := Lib.hid (K1.out.trans (g2.mono hfoot.out))
  clear s2 g2 o2
  go_wp2_with fail
  refine (ack_lit β _ _ _ _ _ _ _ _ S2.out O2.out HND.out (by decide) _ _ a1e a1s).mono ?_
  rintro e x3 ⟨rfl, s3, g3, o3⟩
  have S3 := Lib.hid s3
  have O3 := Lib.hid o3
  have K3 := Lib.hid (K2.out.trans (g3.mono hfoot.out))
  clear s3 g3 o3
  go_wp2_with fail
  refine (ack_lit β _ _ _ _ _ _ _ _ S3.out O3.out HND.out (by decide) _ _ a2e a2s).mono ?_
  rintro e x4 ⟨rfl, s4, g4, o4⟩
  have S4 := Lib.hid s4
  have O4 := Lib.hid o4
  have K4 := Lib.hid (K3.out.trans (g4.mono hfoot.out))
  clear s4 g4 o4
  go_wp2_with fail
  refine (tick_lit β _ _ S4.out O4.out HND.out (by decide) _ _ _ t3).mono ?_
  rintro e x5 ⟨v5, rfl, h5, s5, g5, o5⟩
  obtain ⟨a5, c5, rfl⟩ := owns_zero h5
  clear h5
  have S5 := Lib.hid s5
  have O5 := Lib.hid o5
  have K5 := Lib.hid (K4.out.trans (g5.mono hfoot.out))
  clear s5 g5 o5
  go_wp2_with fail
  refine (tick_lit β _ _ S5.out O5.out HND.out (by decide) _ _ _ t4).mono ?_
  rintro e x6 ⟨v6, rfl, h6, s6, g6, o6⟩
  obtain ⟨a6, c6, rfl⟩ := owns_zero h6
  clear h6
  have S6 := Lib.hid s6
  have O6 := Lib.hid o6
  have K6 := Lib.hid (K5.out.trans (g6.mono hfoot.out))
  clear s6 g6 o6
  go_wp2_with fail
  refine (tick_lit β _ _ S6.out O6.out HND.out (by decide) _ _ _ t5).mono ?_
  rintro e x7 ⟨v7, rfl, h7, s7, g7, o7⟩
  obtain ⟨gn, cn, rfl, hgB, hgl⟩ := h7.form (by decide)
  have hgn := Lib.hid (show gn ∉ β.all from fun hm => by have h1 := hall.out gn hm; have h2 := K6.out.size; omega)
  have n3 := Lib.hid (show x7.cell? ⟨gn, 3, none⟩ = some (.int .i64 1) from World.ownsRow.cellAt h7 3 (by decide))
  have n5 := Lib.hid (show x7.cell? ⟨gn, 5, none⟩ = some (.string ⟨#[98]⟩) from World.ownsRow.cellAt h7 5 (by decide))
  clear h7 hgB hgl
  have S7 := Lib.hid s7
  have O7 := Lib.hid o7
  have K7 := Lib.hid (K6.out.trans (g7.mono hfoot.out))
  clear s7 g7 o7
  go_wp2_with fail
  refine (sThere_any β _ _ S7.out).mono ?_
  rintro e y1 ⟨rfl, mc, q1, _⟩
  have mc := Lib.hid mc
  have n3a := Lib.hid (q1.cell (by simp) n3.out)
  have n5a := Lib.hid (q1.cell (by simp) n5.out)
  have SY := Lib.hid (S7.out.quiet q1)
  have KY := Lib.hid (K7.out.trans (q1.mono (by simp)))
  rename_i mc0
  clear mc0 q1
  go_wp2_with fail
  refine (has_lit _ _ 2 true _ mc.out (by decide)).mono ?_
  rintro e y2 ⟨rfl, rfl⟩
  go_wp2_with fail
  refine (ack_lit β _ _ _ _ _ _ _ _ SY.out O7.out HND.out (by decide) _ _ a3e a3s).mono ?_
  rintro e x8 ⟨rfl, s8, g8, o8⟩
  have n3b := Lib.hid (g8.cell (fun hm => hgn.out (hfoot.out _ hm)) n3a.out)
  have n5b := Lib.hid (g8.cell (fun hm => hgn.out (hfoot.out _ hm)) n5a.out)
  have S8 := Lib.hid s8
  have O8 := Lib.hid o8
  have K8 := Lib.hid (KY.out.trans (g8.mono hfoot.out))
  clear s8 g8 o8
  go_wp2_with fail
  refine (tick_lit β _ _ S8.out O8.out HND.out (by decide) _ _ _ t6).mono ?_
  rintro e x9 ⟨v9, rfl, h9, s9, g9, o9⟩
  obtain ⟨a9, c9, rfl⟩ := owns_zero h9
  have n3c := g9.cell (p := ⟨gn, 3, none⟩) (fun hm => hgn.out (hfoot.out _ hm)) n3b.out
  have n5c := g9.cell (p := ⟨gn, 5, none⟩) (fun hm => hgn.out (hfoot.out _ hm)) n5b.out
  have S9 := Lib.hid s9
  have O9 := Lib.hid o9
  have K9 := Lib.hid (K8.out.trans (g9.mono hfoot.out))
  clear s9 g9 o9 h9
  go_wp2_with fail
  refine (done_lit β _ true _ S9.out (by decide)).mono ?_
  rintro e z1 ⟨rfl, q2⟩
  have SZ := Lib.hid (S9.out.quiet q2)
  have KZ := Lib.hid (K9.out.trans (q2.mono (by simp)))
  clear q2
  go_wp2_with fail
  refine (tries_lit β _ 1 2 _ SZ.out O9.out (by decide) (by decide)).mono ?_
  rintro e z2 ⟨rfl, rfl⟩
  go_wp2_with fail
  go_ret
  exact ⟨rfl, K0.out.then KZ.out (fun x hx => Or.inr (hge2.out x hx))⟩
end Go.Proofs.Ytffcambjdlkfbaa
