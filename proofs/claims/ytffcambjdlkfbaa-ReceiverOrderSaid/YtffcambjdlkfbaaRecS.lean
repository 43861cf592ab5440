/- The answers that the document fixes (signpostlaw14's awake): true, and only new blocks are written. -/
import Derived.Test.YtffcambjdlkfbaaRecR
namespace Go.Proofs.Ytffcambjdlkfbaa
open Go.RowKit

set_option maxRecDepth 100000 in
theorem data67 (i : Int) (s : ByteArray) (w : World) : Calls Try.prog 67 #[.int .i64 i, .string s] w fun e w' => e = .returned (Frm.val ⟨1, 7, 8, i, 3, s⟩) ∧ Keeps [] w w' := by
  unfold Frm.val
  dsimp only
  have ka := Lib.hid ((Keeps.refl [] w).alloc (.cells #[.int .i64 1, .int .i64 7, .int .i64 8, .int .i64 i, .int .i64 3, .string s] 54))
  go_enter Try.func67, Try.ntmps67
  go_wp2_with fail
  (try simp only [Exit.inBlock, Exit.then])
  refine bodyPost_ret (v := .agg #[.int .i64 1, .int .i64 7, .int .i64 8, .int .i64 i, .int .i64 3, .string s]) ?_ rfl ⟨rfl, ?_⟩
  · rw [results_cell1 rfl]
    go_simp
  · exact ka.out

theorem take_lit (b m g cap k t : Nat) (r R : Rcv) (i : Int) (s : ByteArray) (E : Int) (w : World) (h : RcvAt w b m g cap k t r) (ht : t ≤ 1000000) (hE : wrongE r ⟨1, 7, 8, i, 3, s⟩ = E) (hR : r.take ⟨1, 7, 8, i, 3, s⟩ = R) :
    Calls Try.prog 50 #[ptr b, Frm.val ⟨1, 7, 8, i, 3, s⟩] w fun e w' => e = .returned (.int .i64 E) ∧ RcvAt w' b m g cap k (t + 1) R ∧ Keeps [m, g, k] w w' := take50 b m g cap k t r _ w h ht E R hE hR

abbrev rW (l : List Bool) (c : List ByteArray) (d : List Int) : Rcv := ⟨7, 8, l, c, d⟩
abbrev once1 : List Int := [0, 0, 0, 0, 0, 0, 0, 0, 0, 1, 0, 0, 0, 0, 0, 0, 0, 0, 0, 0]

theorem w1e : wrongE (newR 7 8 3) ⟨1, 7, 8, 2, 3, ⟨#[99]⟩⟩ = 0 := by decide +kernel
theorem w1r : (newR 7 8 3).take ⟨1, 7, 8, 2, 3, ⟨#[99]⟩⟩ = rW [false, false, true] [⟨#[]⟩, ⟨#[]⟩, ⟨#[99]⟩] zeros20 := by
  unfold Rcv.take; rw [w1e]; rfl
theorem w2e : wrongE (rW [false, false, true] [⟨#[]⟩, ⟨#[]⟩, ⟨#[99]⟩] zeros20) ⟨1, 7, 8, 0, 3, ⟨#[97]⟩⟩ = 0 := by decide +kernel
theorem w2r : (rW [false, false, true] [⟨#[]⟩, ⟨#[]⟩, ⟨#[99]⟩] zeros20).take ⟨1, 7, 8, 0, 3, ⟨#[97]⟩⟩ = rW [true, false, true] [⟨#[97]⟩, ⟨#[]⟩, ⟨#[99]⟩] zeros20 := by
  unfold Rcv.take; rw [w2e]; rfl
theorem w3e : wrongE (rW [true, false, true] [⟨#[97]⟩, ⟨#[]⟩, ⟨#[99]⟩] zeros20) ⟨1, 7, 8, 0, 3, ⟨#[120]⟩⟩ = 9 := by decide +kernel
theorem w3r : (rW [true, false, true] [⟨#[97]⟩, ⟨#[]⟩, ⟨#[99]⟩] zeros20).take ⟨1, 7, 8, 0, 3, ⟨#[120]⟩⟩ = rW [true, false, true] [⟨#[97]⟩, ⟨#[]⟩, ⟨#[99]⟩] once1 := by
  unfold Rcv.take; rw [w3e]; rfl
theorem w4e : wrongE (rW [true, false, true] [⟨#[97]⟩, ⟨#[]⟩, ⟨#[99]⟩] once1) ⟨1, 7, 8, 1, 3, ⟨#[98]⟩⟩ = 0 := by decide +kernel
theorem w4r : (rW [true, false, true] [⟨#[97]⟩, ⟨#[]⟩, ⟨#[99]⟩] once1).take ⟨1, 7, 8, 1, 3, ⟨#[98]⟩⟩ = rW [true, true, true] [⟨#[97]⟩, ⟨#[98]⟩, ⟨#[99]⟩] once1 := by
  unfold Rcv.take; rw [w4e]; rfl
theorem w5e : wrongE (rW [true, false, true] [⟨#[97]⟩, ⟨#[]⟩, ⟨#[99]⟩] zeros20) ⟨1, 7, 8, 1, 3, ⟨#[66]⟩⟩ = 0 := by decide +kernel
theorem w5r : (rW [true, false, true] [⟨#[97]⟩, ⟨#[]⟩, ⟨#[99]⟩] zeros20).take ⟨1, 7, 8, 1, 3, ⟨#[66]⟩⟩ = rW [true, true, true] [⟨#[97]⟩, ⟨#[66]⟩, ⟨#[99]⟩] zeros20 := by
  unfold Rcv.take; rw [w5e]; rfl

theorem wG0 : (newR 7 8 3).Good := newR_good 7 8 3 (by decide) (by decide) (by decide) (by decide)
theorem wG1 : (rW [false, false, true] [⟨#[]⟩, ⟨#[]⟩, ⟨#[99]⟩] zeros20).Good := by rw [← w1r]; exact take_good wG0 _
theorem wG2 : (rW [true, false, true] [⟨#[97]⟩, ⟨#[]⟩, ⟨#[99]⟩] zeros20).Good := by rw [← w2r]; exact take_good wG1 _
theorem wG3 : (rW [true, false, true] [⟨#[97]⟩, ⟨#[]⟩, ⟨#[99]⟩] once1).Good := by rw [← w3r]; exact take_good wG2 _
theorem wG4 : (rW [true, true, true] [⟨#[97]⟩, ⟨#[98]⟩, ⟨#[99]⟩] once1).Good := by rw [← w4r]; exact take_good wG3 _
theorem wG5 : (rW [true, true, true] [⟨#[97]⟩, ⟨#[66]⟩, ⟨#[99]⟩] zeros20).Good := by rw [← w5r]; exact take_good wG2 _

theorem wA : ackV (rW [true, false, true] [⟨#[97]⟩, ⟨#[]⟩, ⟨#[99]⟩] once1) = .agg #[.int .i64 2, .int .i64 7, .int .i64 8, .int .i64 1, .int .i64 3, .string ⟨#[1, 0]⟩] := by
  have h1 : baseL [true, false, true] = 1 := by decide
  have h2 : behindL [true, false, true] 16 = [1, 0] := by decide
  unfold ackV
  dsimp only
  rw [h1, h2]
  rfl

theorem wD1 : dataS (rW [true, false, true] [⟨#[97]⟩, ⟨#[]⟩, ⟨#[99]⟩] once1) = ⟨#[]⟩ := by
  unfold dataS; rw [if_neg (by decide)]; rfl
theorem wD2 : dataS (rW [true, true, true] [⟨#[97]⟩, ⟨#[98]⟩, ⟨#[99]⟩] once1) = ⟨#[97, 98, 99]⟩ := by
  unfold dataS; rw [if_pos (by decide)]; rfl
theorem wD3 : dataS (rW [true, true, true] [⟨#[97]⟩, ⟨#[66]⟩, ⟨#[99]⟩] zeros20) = ⟨#[97, 66, 99]⟩ := by
  unfold dataS; rw [if_pos (by decide)]; rfl

theorem uint_none : uintR 10 0 0 (mkB []) 0 = (0, mkB [], 3) := by
  have h0 : (mkB []).size = 0 := by rw [size_mkB]; rfl
  unfold uintR
  have h1 : byteE (mkB []) 0 = 3 := by unfold byteE; rw [if_neg (by simp), if_pos h0]
  have h2 : byteS (mkB []) 0 = mkB [] := by unfold byteS; rw [if_pos (Or.inr h0)]
  rw [h1, h2, if_pos (by decide)]

theorem wR : resumeR ⟨#[1]⟩ = (none, 3) := by
  have h1 : uintR 10 0 0 ⟨#[1]⟩ 0 = (1, mkB [], 0) := by
    have := uint_read0 1 [] (by decide)
    have e : numB 1 = [1] := by unfold numB; rw [if_pos (by decide)]; rfl
    rw [e] at this
    exact this
  unfold resumeR
  simp only [h1, uint_none, uint_err (mkB []) 3 (by decide)]
  rfl

/-- What New gives, written out. -/
theorem new_full (ses epo n : Nat) (r : Rcv) (hr : newR ses epo n = r) (x y z : Int) (hx : x = ses) (hy : y = epo) (hz : z = n) (w : World) (h1 : 1 ≤ n) (h2 : n ≤ 256) (hs : ses < 4294967296) (he : epo < 4294967296) :
    Calls Try.prog 47 #[.int .i64 x, .int .i64 y, .int .i64 z] w (NewPost r w) := by
  subst hr; subst hx; subst hy; subst hz
  exact new47_yes ses epo n w h1 h2 hs he

theorem resume_full (r r0 : Rcv) (s : ByteArray) (hs : mkB (cursorL r) = s) (hg : r.Good) (h0 : (⟨r.ses, r.epo, r.l, r.c, zeros20⟩ : Rcv) = r0) (w : World) : Calls Try.prog 42 #[.string s] w (NewPost r0 w) := by
  subst hs; subst h0
  refine (resume42 (mkB (cursorL r)) w _ (resumeR_forth r hg)).mono ?_
  rintro e w' ⟨_, b, m, g, cap, k, rfl, h1, h2, h3⟩
  exact ⟨b, m, g, cap, k, rfl, h1, h2, h3⟩

set_option maxRecDepth 100000 in
set_option maxHeartbeats 8000000 in
theorem awake14 (w : World) : Calls Try.prog 41 #[] w (AwakePost w) := by
  obtain ⟨S, hS⟩ : ∃ S, mkB (cursorL (rW [true, false, true] [⟨#[97]⟩, ⟨#[]⟩, ⟨#[99]⟩] once1)) = S := ⟨_, rfl⟩
  have HS := Lib.hid hS; clear hS
  go_enter Try.func41, Try.ntmps41
  go_wp2_with fail
  refine (new_full 7 8 3 _ rfl 7 8 3 rfl rfl rfl w (by decide) (by decide) (by decide) (by decide)).mono ?_
  rintro e w1 ⟨b, m, g, cap, k, rfl, q1, n1, k1⟩
  have k1 := Lib.hid k1
  have n1 := Lib.hid n1
  go_wp2_with fail
  refine (new47_no 7 8 0 _ (by unfold May14; omega)).mono ?_
  rintro e w2 ⟨rfl, k2⟩
  have q2 := q1.quiet k2
  have k2 := Lib.hid (k1.out.trans k2)
  go_wp2_with fail
  refine (data67 2 _ _).mono ?_
  rintro e w3 ⟨rfl, k3⟩
  have q3 := q2.quiet k3
  have k3 := Lib.hid (k2.out.trans k3)
  go_wp2_with fail
  refine (take_lit b m g cap k 0 _ _ 2 _ 0 _ q3 (by omega) w1e w1r).mono ?_
  rintro e w4 ⟨rfl, q4, k4⟩
  have k4 := Lib.hid (keeps_new k3.out k4 (by have := n1.out; simp; omega))
  clear q1 q2 q3
  go_wp2_with fail
  refine (data67 0 _ _).mono ?_
  rintro e w5 ⟨rfl, k5⟩
  have q5 := q4.quiet k5
  have k5 := Lib.hid (k4.out.trans k5)
  go_wp2_with fail
  refine (take_lit b m g cap k _ _ _ 0 _ 0 _ q5 (by omega) w2e w2r).mono ?_
  rintro e w6 ⟨rfl, q6, k6⟩
  have k6 := Lib.hid (keeps_new k5.out k6 (by have := n1.out; simp; omega))
  clear q4 q5
  go_wp2_with fail
  refine (data67 0 _ _).mono ?_
  rintro e w7 ⟨rfl, k7⟩
  have q7 := q6.quiet k7
  have k7 := Lib.hid (k6.out.trans k7)
  go_wp2_with fail
  refine (take_lit b m g cap k _ _ _ 0 _ 9 _ q7 (by omega) w3e w3r).mono ?_
  rintro e w8 ⟨rfl, q8, k8⟩
  have k8 := Lib.hid (keeps_new k7.out k8 (by have := n1.out; simp; omega))
  clear q6 q7
  go_wp2_with fail
  refine (ack45 b m g cap k _ _ _ q8).mono ?_
  rw [wA]
  rintro e w9 ⟨rfl, k9⟩
  have q9 := q8.quiet k9
  have k9 := Lib.hid (k8.out.trans k9)
  clear q8
  go_wp2_with fail
  have ka := (Keeps.refl [] w9).alloc (.cells #[.int .i64 2, .int .i64 7, .int .i64 8, .int .i64 1, .int .i64 3, .string ⟨#[1, 0]⟩] 54)
  have fa := RowAt.new w9 54 [.int .i64 2, .int .i64 7, .int .i64 8, .int .i64 1, .int .i64 3, .string ⟨#[1, 0]⟩]
  have hlt9 := q9.lt
  have qa := q9.quiet ka
  have ka := Lib.hid (k9.out.trans ka)
  have sa := fa.lt
  generalize w9.alloc (.cells #[.int .i64 2, .int .i64 7, .int .i64 8, .int .i64 1, .int .i64 3, .string ⟨#[1, 0]⟩] 54) = wa at *
  generalize w9.heap.size = kb at *
  have FA := Lib.hid fa
  clear q9 fa
  refine (cursor44 b m g cap k _ _ _ qa wG3).mono ?_
  rw [HS.out]
  rintro e w10 ⟨rfl, k10⟩
  have q10 := qa.quiet k10
  have F10 := Lib.hid (FA.out.keeps k10 (by simp))
  have s10 := k10.size
  have k10 := Lib.hid (ka.out.trans k10)
  clear qa FA
  go_wp2_with fail
  refine (resume_full _ (rW [true, false, true] [⟨#[97]⟩, ⟨#[]⟩, ⟨#[99]⟩] zeros20) S HS.out wG3 rfl _).mono ?_
  rintro e w11 ⟨b', m', g', cap', k', rfl, y11, n11, k11⟩
  have q11 := q10.quiet k11
  have F11 := Lib.hid (F10.out.keeps k11 (by simp))
  have s11 := k11.size
  have z10 := k10.out.size
  have nw : w.heap.size ≤ b' ∧ w.heap.size ≤ m' ∧ w.heap.size ≤ g' ∧ w.heap.size ≤ k' := by omega
  have k11 := Lib.hid (k10.out.trans k11)
  have N11 := Lib.hid n11
  have NW := Lib.hid nw
  clear q10 F10 n11 nw
  go_wp2_with fail
  refine (data54 b m g cap k _ _ _ q11 wG3 ⟨#[]⟩ 11 wD1 (by decide)).mono ?_
  rintro e w12 ⟨rfl, k12⟩
  have q12 := q11.quiet k12
  have y12 := y11.quiet k12
  have F12 := Lib.hid (F11.out.keeps k12 (by simp))
  have k12 := Lib.hid (k11.out.trans k12)
  clear q11 F11 y11
  go_wp2_with fail
  refine (data67 1 _ _).mono ?_
  rintro e w13 ⟨rfl, k13⟩
  have q13 := q12.quiet k13
  have y13 := y12.quiet k13
  have F13 := Lib.hid (F12.out.keeps k13 (by simp))
  have k13 := Lib.hid (k12.out.trans k13)
  clear q12 F12 y12
  go_wp2_with fail
  refine (take_lit b m g cap k _ _ _ 1 _ 0 _ q13 (by omega) w4e w4r).mono ?_
  rintro e w14 ⟨rfl, q14, k14⟩
  have y14 := y13.keeps k14 (by have := N11.out; simp; omega) (by have := N11.out; simp; omega) (by have := N11.out; simp; omega) (by have := N11.out; simp; omega)
  have F14 := Lib.hid (F13.out.keeps k14 (by simp; omega))
  have k14 := Lib.hid (keeps_new k13.out k14 (by have := n1.out; simp; omega))
  clear q13 F13 y13
  go_wp2_with fail
  refine (data54 b m g cap k _ _ _ q14 wG4 ⟨#[97, 98, 99]⟩ 0 wD2 (by decide)).mono ?_
  rintro e w15 ⟨rfl, k15⟩
  have q15 := q14.quiet k15
  have y15 := y14.quiet k15
  have F15 := Lib.hid (F14.out.keeps k15 (by simp))
  have k15 := Lib.hid (k14.out.trans k15)
  clear q14 F14 y14
  go_wp2_with fail
  refine (data67 1 _ _).mono ?_
  rintro e w16 ⟨rfl, k16⟩
  have q16 := q15.quiet k16
  have y16 := y15.quiet k16
  have F16 := Lib.hid (F15.out.keeps k16 (by simp))
  have k16 := Lib.hid (k15.out.trans k16)
  clear q15 F15 y15
  go_wp2_with fail
  refine (take_lit b' m' g' cap' k' _ _ _ 1 _ 0 _ y16 (by omega) w5e w5r).mono ?_
  rintro e w17 ⟨rfl, y17, k17⟩
  have q17 := q16.keeps k17 (by have := N11.out; simp; omega) (by have := N11.out; simp; omega) (by have := N11.out; simp; omega) (by have := N11.out; simp; omega)
  have F17 := Lib.hid (F16.out.keeps k17 (by have := N11.out; simp; omega))
  have k17 := Lib.hid (keeps_new k16.out k17 (by have := NW.out; simp; omega))
  clear q16 F16 y16
  go_wp2_with fail
  refine (data54 b' m' g' cap' k' _ _ _ y17 wG5 ⟨#[97, 66, 99]⟩ 0 wD3 (by decide)).mono ?_
  rintro e w18 ⟨rfl, k18⟩
  have q18 := q17.quiet k18
  have y18 := y17.quiet k18
  have F18 := Lib.hid (F17.out.keeps k18 (by simp))
  have k18 := Lib.hid (k17.out.trans k18)
  clear q17 F17 y17
  go_wp2_with fail
  refine (resume42 ⟨#[1]⟩ _ _ wR).mono ?_
  rintro e w19 ⟨rfl, k19⟩
  have q19 := q18.quiet k19
  have y19 := y18.quiet k19
  have f19 := F18.out.keeps k19 (by simp)
  have k19 := Lib.hid (k18.out.trans k19)
  have e3 := f19.cell 3
  have e4 := f19.cell 4
  have e5 := f19.cell 5
  simp only [List.getElem?_cons_zero, List.getElem?_cons_succ] at e3 e4 e5
  have Q19 := Lib.hid q19
  have Y19 := Lib.hid y19
  clear q18 F18 y18 q19 y19 f19
  go_wp2_with fail
  refine (done52 b m g cap k _ _ _ Q19.out true (by decide)).mono ?_
  rintro e w20 ⟨rfl, k20⟩
  have Q20 := Lib.hid (Q19.out.quiet k20)
  have Y20 := Lib.hid (Y19.out.quiet k20)
  have k20 := Lib.hid (k19.out.trans k20)
  go_wp2_with fail
  refine (drops53 b m g cap k _ _ _ Q20.out 9 (by decide) 1 rfl).mono ?_
  rintro e w21 ⟨rfl, rfl⟩
  go_wp2_with fail
  refine (drops53 b' m' g' cap' k' _ _ _ Y20.out 9 (by decide) 0 rfl).mono ?_
  rintro e w21 ⟨rfl, rfl⟩
  go_wp2_with fail
  go_ret
  exact ⟨rfl, k20.out⟩
end Go.Proofs.Ytffcambjdlkfbaa
