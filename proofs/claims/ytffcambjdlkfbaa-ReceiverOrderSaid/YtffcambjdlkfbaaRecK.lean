/- Contract of the reference receiver's Ack (signpostref14). -/
import Derived.Test.YtffcambjdlkfbaaRecJ
namespace Go.Proofs.Ytffcambjdlkfbaa
open Go.RowKit

section
variable {w0 w' : World} {b gi ci gc cc rb : Nat} {r : Rcv} (h : w'.cell? ⟨b, 0, none⟩ = some (.int .i64 r.ses) ∧ w'.cell? ⟨b, 1, none⟩ = some (.int .i64 r.epo) ∧ w'.cell? ⟨b, 2, none⟩ = some (.slice (some ⟨gi, 0, none⟩) r.l.length ci) ∧ w'.cell? ⟨b, 3, none⟩ = some (.slice (some ⟨gc, 0, none⟩) r.l.length cc) ∧ SixAt w' rb ∧ BoolsAt w' gi ci r.l ∧ Keeps [rb] w0 w')
include h
theorem rbase46 : Calls Try.prog 16 #[.slice (some ⟨gi, 0, none⟩) r.l.length ci] w' fun e w'' => e = .returned (.int .i64 (baseL r.l)) ∧ w' = w'' := rbase_any gi ci r.l w' h.2.2.2.2.2.1
theorem rbehind46 (hle : r.l.length ≤ 1000) : Calls Try.prog 21 #[.slice (some ⟨gi, 0, none⟩) r.l.length ci, .int .i64 16] w' fun e w'' => e = .returned (.string ⟨(behindL r.l 16).toArray⟩) ∧ w''.cell? ⟨b, 0, none⟩ = some (.int .i64 r.ses) ∧ w''.cell? ⟨b, 1, none⟩ = some (.int .i64 r.epo) ∧ w''.cell? ⟨b, 2, none⟩ = some (.slice (some ⟨gi, 0, none⟩) r.l.length ci) ∧ w''.cell? ⟨b, 3, none⟩ = some (.slice (some ⟨gc, 0, none⟩) r.l.length cc) ∧ SixAt w'' rb ∧ BoolsAt w'' gi ci r.l ∧ Keeps [rb] w0 w'' :=
  (rbehind_any gi ci r.l 16 w' h.2.2.2.2.2.1 hle).mono fun _ _ ⟨h1, hk⟩ => ⟨h1, hk.cell (by simp) h.1, hk.cell (by simp) h.2.1, hk.cell (by simp) h.2.2.1, hk.cell (by simp) h.2.2.2.1, by
    obtain ⟨x0, x1, x2, x3, x4, x5, hx⟩ := h.2.2.2.2.1
    exact ⟨x0, x1, x2, x3, x4, x5, hx.keeps hk (by simp)⟩, h.2.2.2.2.2.1.keeps hk (by simp), h.2.2.2.2.2.2.trans (hk.mono (by simp))⟩
theorem set46 (hne : b ≠ rb) (hnm : gi ≠ rb) (i : Nat) (v : Value) (hi : i < 6) : (w'.setCell ⟨rb, i, none⟩ v).cell? ⟨b, 0, none⟩ = some (.int .i64 r.ses) ∧ (w'.setCell ⟨rb, i, none⟩ v).cell? ⟨b, 1, none⟩ = some (.int .i64 r.epo) ∧ (w'.setCell ⟨rb, i, none⟩ v).cell? ⟨b, 2, none⟩ = some (.slice (some ⟨gi, 0, none⟩) r.l.length ci) ∧ (w'.setCell ⟨rb, i, none⟩ v).cell? ⟨b, 3, none⟩ = some (.slice (some ⟨gc, 0, none⟩) r.l.length cc) ∧ SixAt (w'.setCell ⟨rb, i, none⟩ v) rb ∧ BoolsAt (w'.setCell ⟨rb, i, none⟩ v) gi ci r.l ∧ Keeps [rb] w0 (w'.setCell ⟨rb, i, none⟩ v) :=
  ⟨(keeps_store1 w' rb i v).cell (by simpa using hne) h.1, (keeps_store1 w' rb i v).cell (by simpa using hne) h.2.1, (keeps_store1 w' rb i v).cell (by simpa using hne) h.2.2.1, (keeps_store1 w' rb i v).cell (by simpa using hne) h.2.2.2.1,
    h.2.2.2.2.1.set i v hi, h.2.2.2.2.2.1.keeps (keeps_store1 w' rb i v) (by simpa using hnm), keeps_set h.2.2.2.2.2.2 i v⟩
end

set_option maxRecDepth 100000 in
set_option maxHeartbeats 4000000 in
theorem ack46 (b gi ci gc cc gd cd t : Nat) (r : Rcv) (w : World) (h : RefAt w b gi ci gc cc gd cd t r) (hle : r.l.length ≤ 1000) :
    Calls Try.prog 46 #[ptr b] w fun e w' => e = .returned (ackV r) ∧ Keeps [] w w' := by
  have H := Lib.hid h
  clear h
  unfold ackV
  go_enter Try.func46, Try.ntmps46
  go_wp2_with fail
  have ka := (Keeps.refl [] w).alloc (.cells #[.int .i64 0, .int .i64 0, .int .i64 0, .int .i64 0, .int .i64 0, .string ⟨#[]⟩] 54)
  have hr : SixAt (w.alloc (.cells #[.int .i64 0, .int .i64 0, .int .i64 0, .int .i64 0, .int .i64 0, .string ⟨#[]⟩] 54)) w.heap.size := ⟨_, _, _, _, _, _, RowAt.new w 54 [.int .i64 0, .int .i64 0, .int .i64 0, .int .i64 0, .int .i64 0, .string ⟨#[]⟩]⟩
  have hne : b ≠ w.heap.size := Nat.ne_of_lt H.out.row.lt
  have hnm : gi ≠ w.heap.size := Nat.ne_of_lt H.out.bools.lt
  have H1 := H.out.quiet ka
  have c0 := H1.c0
  have c1 := H1.c1
  have c2 := H1.c2
  have c3 := H1.c3
  have hm1 := H1.bools
  have Hka := Lib.hid ka
  clear ka H1
  generalize w.alloc (.cells #[.int .i64 0, .int .i64 0, .int .i64 0, .int .i64 0, .int .i64 0, .string ⟨#[]⟩] 54) = w0 at *
  generalize hrb : w.heap.size = rb at *
  have HRb := Lib.hid hrb; clear hrb
  have hS0 := Lib.hid (show w0.drew.cell? ⟨b, 0, none⟩ = some (.int .i64 r.ses) ∧ w0.drew.cell? ⟨b, 1, none⟩ = some (.int .i64 r.epo) ∧ w0.drew.cell? ⟨b, 2, none⟩ = some (.slice (some ⟨gi, 0, none⟩) r.l.length ci) ∧ w0.drew.cell? ⟨b, 3, none⟩ = some (.slice (some ⟨gc, 0, none⟩) r.l.length cc) ∧ SixAt w0.drew rb ∧ BoolsAt w0.drew gi ci r.l ∧ Keeps [rb] w0 w0.drew from ⟨c0, c1, c2, c3, hr, hm1, (Keeps.refl [rb] w0).drew⟩)
  clear c0 c1 c2 c3 hr hm1
  go_region_held3 (fun w' => w'.cell? ⟨b, 0, none⟩ = some (.int .i64 r.ses) ∧ w'.cell? ⟨b, 1, none⟩ = some (.int .i64 r.epo) ∧ w'.cell? ⟨b, 2, none⟩ = some (.slice (some ⟨gi, 0, none⟩) r.l.length ci) ∧ w'.cell? ⟨b, 3, none⟩ = some (.slice (some ⟨gc, 0, none⟩) r.l.length cc) ∧ SixAt w' rb ∧ BoolsAt w' gi ci r.l ∧ Keeps [rb] w0 w')
    (first | with_reducible exact hSb.out | with_reducible exact hS0.out | with_reducible exact hlast0.out)
    (first
      | (go_at_call 16; refine (rbase46 (by first | exact hSb.out | exact hS0.out)).mono ?_; rintro e w' ⟨rfl, rfl⟩)
      | (go_at_call 21; refine (rbehind46 (by exact hS0.out) hle).mono ?_; rintro e w' ⟨rfl, hS⟩; have hSb := Lib.hid hS; have hSix := hS.2.2.2.2.1; obtain ⟨x0, x1, x2, x3, x4, x5, hrow⟩ := hSix; have HRow := Lib.hid hrow; have q0 := hrow.cell 0; have q1 := hrow.cell 1; have q2 := hrow.cell 2; have q3 := hrow.cell 3; have q4 := hrow.cell 4; have q5 := hrow.cell 5; simp only [List.getElem?_cons_zero, List.getElem?_cons_succ] at q0 q1 q2 q3 q4 q5; have fr := hrow.free; have hlast0 := Lib.hid (set46 (set46 (set46 (set46 (set46 (set46 hS hne hnm 0 (.int .i64 2) (by omega)) hne hnm 1 (.int .i64 r.ses) (by omega)) hne hnm 2 (.int .i64 r.epo) (by omega)) hne hnm 3 (.int .i64 (baseL r.l)) (by omega)) hne hnm 4 (.int .i64 r.l.length) (by omega)) hne hnm 5 (.string ⟨(behindL r.l 16).toArray⟩) (by omega)); clear hrow hS))
  all_goals
    have r6 := (((((HRow.out.set 0 (.int .i64 2)).set 1 (.int .i64 r.ses)).set 2 (.int .i64 r.epo)).set 3 (.int .i64 (baseL r.l))).set 4 (.int .i64 r.l.length)).set 5 (.string ⟨(behindL r.l 16).toArray⟩)
    simp only [List.set_cons_zero, List.set_cons_succ] at r6
    have k6 := hlast0.out.2.2.2.2.2.2
    have R6 := Lib.hid r6
    have K6 := Lib.hid k6
    clear r6 k6 hlast0 q0 q1 q2 q3 q4 q5 fr HRow hSb hS0
    generalize World.setCell _ _ _ = w6 at *
    have e0 := R6.out.cell 0
    have e1 := R6.out.cell 1
    have e2 := R6.out.cell 2
    have e3 := R6.out.cell 3
    have e4 := R6.out.cell 4
    have e5 := R6.out.cell 5
    simp only [List.getElem?_cons_zero, List.getElem?_cons_succ] at e0 e1 e2 e3 e4 e5
    go_wp2_with fail
    (try simp only [Exit.inBlock, Exit.then])
    refine bodyPost_ret (v := .agg #[.int .i64 2, .int .i64 r.ses, .int .i64 r.epo, .int .i64 (baseL r.l), .int .i64 r.l.length, .string ⟨(behindL r.l 16).toArray⟩]) ?_ rfl ⟨rfl, ?_⟩
    · rw [results_cell1 rfl]
      go_simp
    · exact Hka.out.then K6.out (by intro x hx; simp at hx; subst hx; right; rw [HRb.out]; exact Nat.le_refl _)
end Go.Proofs.Ytffcambjdlkfbaa
