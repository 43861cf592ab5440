/- Contracts of the receiver's Done, Drops, There (package receiver). -/
import Derived.Test.YtffcambjdlkfbaaRecI
namespace Go.Proofs.Ytffcambjdlkfbaa
open Go.RowKit Go.Maps

theorem done52 (b m g cap k t : Nat) (r : Rcv) (w : World) (h : RcvAt w b m g cap k t r) (q : Bool) (hq : (baseL r.l == r.l.length) = q) :
    Calls Try.prog 52 #[ptr b] w fun e w' => e = .returned (.bool q) ∧ Keeps [] w w' := by
  have c2 := h.c2
  have HF := Lib.hid (full_lit m r.l q w h.map hq)
  clear h hq
  go_enter Try.func52, Try.ntmps52
  go_wp2_with fail
  refine (HF.out).mono ?_
  rintro e w1 ⟨rfl, k1⟩
  have k1 := Lib.hid k1
  go_wp2_with fail
  go_ret
  exact ⟨rfl, k1.out⟩

theorem drops53 (b m g cap k t : Nat) (r : Rcv) (w : World) (h : RcvAt w b m g cap k t r) (i : Nat) (hi : i < 20) (x : Int) (hx : r.d.getD i 0 = x) :
    Calls Try.prog 53 #[ptr b, .int .i64 i] w fun e w' => e = .returned (.int .i64 x) ∧ w = w' := by
  have c4 := h.c4
  obtain ⟨d1, d2, D, hown, d3⟩ := h.dr
  have hD := d3 i hi
  rw [hx] at hD
  have HDE := Lib.hid hD
  clear h hx d1 d2 d3 hD
  go_enter Try.func53, Try.ntmps53
  go_wp2_with (first
    | (at_lookup; refine wpList_lookup_own_int _ rfl _ _ 111 rfl 25 3 .i64 law25 Try.underlying111 Try.underlying3 (zero3 _) k t _ rfl hown _ _ rfl (keyOf_int_mk Try.underlying25 (WalkArith.wf_i64 (by omega))) ?_; intro c hat hwc; have hc : c = x := (by rw [HDE.out] at hat; injection hat with hat; injection hat with _ hat; exact hat.symm); subst hc)
    | go_in)
  go_ret
  exact ⟨rfl, rfl⟩

theorem there57 (b m g cap k t : Nat) (r : Rcv) (w : World) (h : RcvAt w b m g cap k t r) :
    Calls Try.prog 57 #[ptr b] w (CopyPost r.l w) := by
  have c2 := h.c2
  have HC := Lib.hid (copy_any m r.l w h.map)
  clear h
  go_enter Try.func57, Try.ntmps57
  go_wp2_with fail
  refine (HC.out).mono ?_
  rintro e w1 ⟨rfl, h1, h2, h3⟩
  have h1 := Lib.hid h1
  have h2 := Lib.hid h2
  have h3 := Lib.hid h3
  go_wp2_with fail
  go_ret
  exact ⟨rfl, h1.out, h2.out, h3.out⟩

/-- What Ack tells. -/
def ackV (r : Rcv) : Value := .agg #[.int .i64 2, .int .i64 r.ses, .int .i64 r.epo, .int .i64 (baseL r.l), .int .i64 r.l.length, .string ⟨(behindL r.l 16).toArray⟩]

theorem keeps_set {w0 w' : World} {rb : Nat} (h : Keeps [rb] w0 w') (i : Nat) (v : Value) : Keeps [rb] w0 (w'.setCell ⟨rb, i, none⟩ v) := h.trans (keeps_store1 w' rb i v)

theorem results_cell1 {fn : Func} {p : Tmp} {ty : TypeId} (h : fn.results = #[.cell p ty]) (tmps : Array Value) (P : Program) (w : World) :
    (results fn tmps).run P w = ((asAddr (tmps.getD p undef)).run P w).andThen fun a w₁ => (loadVar ty a).run P w₁ := by
  simp only [results, h]
  simp [Sem.run_bind, Result.andThen]

/-- Six cells at block rb. -/
def SixAt (w : World) (rb : Nat) : Prop := ∃ x0 x1 x2 x3 x4 x5, RowAt w rb 54 [x0, x1, x2, x3, x4, x5]
theorem SixAt.set {w : World} {rb : Nat} (h : SixAt w rb) (i : Nat) (v : Value) (hi : i < 6) : SixAt (w.setCell ⟨rb, i, none⟩ v) rb := by
  obtain ⟨x0, x1, x2, x3, x4, x5, h⟩ := h
  have h2 := h.set i v
  match i, hi with
  | 0, _ => exact ⟨_, _, _, _, _, _, h2⟩
  | 1, _ => exact ⟨_, _, _, _, _, _, h2⟩
  | 2, _ => exact ⟨_, _, _, _, _, _, h2⟩
  | 3, _ => exact ⟨_, _, _, _, _, _, h2⟩
  | 4, _ => exact ⟨_, _, _, _, _, _, h2⟩
  | 5, _ => exact ⟨_, _, _, _, _, _, h2⟩

section
variable {w0 w' : World} {b m g cap rb : Nat} {r : Rcv} (h : w'.cell? ⟨b, 0, none⟩ = some (.int .i64 r.ses) ∧ w'.cell? ⟨b, 1, none⟩ = some (.int .i64 r.epo) ∧ w'.cell? ⟨b, 2, none⟩ = some (ptr m) ∧ w'.cell? ⟨b, 3, none⟩ = some (.slice (some ⟨g, 0, none⟩) r.l.length cap) ∧ SixAt w' rb ∧ MapAt w' m r.l ∧ Keeps [rb] w0 w')
include h
theorem base45 : Calls Try.prog 15 #[ptr m] w' fun e w'' => e = .returned (.int .i64 (baseL r.l)) ∧ w' = w'' := base_any m r.l w' h.2.2.2.2.2.1
theorem behind45 : Calls Try.prog 20 #[ptr m, .int .i64 16] w' fun e w'' => e = .returned (.string ⟨(behindL r.l 16).toArray⟩) ∧ w''.cell? ⟨b, 0, none⟩ = some (.int .i64 r.ses) ∧ w''.cell? ⟨b, 1, none⟩ = some (.int .i64 r.epo) ∧ w''.cell? ⟨b, 2, none⟩ = some (ptr m) ∧ w''.cell? ⟨b, 3, none⟩ = some (.slice (some ⟨g, 0, none⟩) r.l.length cap) ∧ SixAt w'' rb ∧ MapAt w'' m r.l ∧ Keeps [rb] w0 w'' :=
  (behind_any m r.l 16 w' h.2.2.2.2.2.1).mono fun _ _ ⟨h1, hk⟩ => ⟨h1, hk.cell (by simp) h.1, hk.cell (by simp) h.2.1, hk.cell (by simp) h.2.2.1, hk.cell (by simp) h.2.2.2.1, by
    obtain ⟨x0, x1, x2, x3, x4, x5, hx⟩ := h.2.2.2.2.1
    exact ⟨x0, x1, x2, x3, x4, x5, hx.keeps hk (by simp)⟩, h.2.2.2.2.2.1.keeps hk (by simp), h.2.2.2.2.2.2.trans (hk.mono (by simp))⟩
theorem set45 (hne : b ≠ rb) (hnm : m ≠ rb) (i : Nat) (v : Value) (hi : i < 6) : (w'.setCell ⟨rb, i, none⟩ v).cell? ⟨b, 0, none⟩ = some (.int .i64 r.ses) ∧ (w'.setCell ⟨rb, i, none⟩ v).cell? ⟨b, 1, none⟩ = some (.int .i64 r.epo) ∧ (w'.setCell ⟨rb, i, none⟩ v).cell? ⟨b, 2, none⟩ = some (ptr m) ∧ (w'.setCell ⟨rb, i, none⟩ v).cell? ⟨b, 3, none⟩ = some (.slice (some ⟨g, 0, none⟩) r.l.length cap) ∧ SixAt (w'.setCell ⟨rb, i, none⟩ v) rb ∧ MapAt (w'.setCell ⟨rb, i, none⟩ v) m r.l ∧ Keeps [rb] w0 (w'.setCell ⟨rb, i, none⟩ v) :=
  ⟨(keeps_store1 w' rb i v).cell (by simpa using hne) h.1, (keeps_store1 w' rb i v).cell (by simpa using hne) h.2.1, (keeps_store1 w' rb i v).cell (by simpa using hne) h.2.2.1, (keeps_store1 w' rb i v).cell (by simpa using hne) h.2.2.2.1,
    h.2.2.2.2.1.set i v hi, h.2.2.2.2.2.1.keeps (keeps_store1 w' rb i v) (by simpa using hnm), keeps_set h.2.2.2.2.2.2 i v⟩
end

set_option maxRecDepth 100000 in
set_option maxHeartbeats 4000000 in
theorem ack45 (b m g cap k t : Nat) (r : Rcv) (w : World) (h : RcvAt w b m g cap k t r) :
    Calls Try.prog 45 #[ptr b] w fun e w' => e = .returned (ackV r) ∧ Keeps [] w w' := by
  have H := Lib.hid h
  clear h
  unfold ackV
  go_enter Try.func45, Try.ntmps45
  go_wp2_with fail
  have ka := (Keeps.refl [] w).alloc (.cells #[.int .i64 0, .int .i64 0, .int .i64 0, .int .i64 0, .int .i64 0, .string ⟨#[]⟩] 54)
  have hr : SixAt (w.alloc (.cells #[.int .i64 0, .int .i64 0, .int .i64 0, .int .i64 0, .int .i64 0, .string ⟨#[]⟩] 54)) w.heap.size := ⟨_, _, _, _, _, _, RowAt.new w 54 [.int .i64 0, .int .i64 0, .int .i64 0, .int .i64 0, .int .i64 0, .string ⟨#[]⟩]⟩
  have hne : b ≠ w.heap.size := Nat.ne_of_lt H.out.row.lt
  have hnm : m ≠ w.heap.size := Nat.ne_of_lt H.out.map.lt
  have H1 := H.out.quiet ka
  have c0 := H1.c0
  have c1 := H1.c1
  have c2 := H1.c2
  have c3 := H1.c3
  have hm1 := H1.map
  have Hka := Lib.hid ka
  have HSz := Lib.hid (show w.heap.size ≤ w.heap.size from Nat.le_refl _)
  clear ka H1
  generalize w.alloc (.cells #[.int .i64 0, .int .i64 0, .int .i64 0, .int .i64 0, .int .i64 0, .string ⟨#[]⟩] 54) = w0 at *
  generalize hrb : w.heap.size = rb at *
  have HRb := Lib.hid hrb; clear hrb
  have hS0 := Lib.hid (show w0.drew.cell? ⟨b, 0, none⟩ = some (.int .i64 r.ses) ∧ w0.drew.cell? ⟨b, 1, none⟩ = some (.int .i64 r.epo) ∧ w0.drew.cell? ⟨b, 2, none⟩ = some (ptr m) ∧ w0.drew.cell? ⟨b, 3, none⟩ = some (.slice (some ⟨g, 0, none⟩) r.l.length cap) ∧ SixAt w0.drew rb ∧ MapAt w0.drew m r.l ∧ Keeps [rb] w0 w0.drew from ⟨c0, c1, c2, c3, hr, hm1, (Keeps.refl [rb] w0).drew⟩)
  clear c0 c1 c2 c3 hr hm1
  go_region_held3 (fun w' => w'.cell? ⟨b, 0, none⟩ = some (.int .i64 r.ses) ∧ w'.cell? ⟨b, 1, none⟩ = some (.int .i64 r.epo) ∧ w'.cell? ⟨b, 2, none⟩ = some (ptr m) ∧ w'.cell? ⟨b, 3, none⟩ = some (.slice (some ⟨g, 0, none⟩) r.l.length cap) ∧ SixAt w' rb ∧ MapAt w' m r.l ∧ Keeps [rb] w0 w')
    (first | with_reducible exact hSb.out | with_reducible exact hS0.out | with_reducible exact hlast0.out)
    (first
      | (go_at_call 15; refine (base45 (by first | exact hSb.out | exact hS0.out)).mono ?_; rintro e w' ⟨rfl, rfl⟩)
      | (go_at_call 20; refine (behind45 (by exact hS0.out)).mono ?_; rintro e w' ⟨rfl, hS⟩; have hSb := Lib.hid hS; have hSix := hS.2.2.2.2.1; obtain ⟨x0, x1, x2, x3, x4, x5, hrow⟩ := hSix; have HRow := Lib.hid hrow; have q0 := hrow.cell 0; have q1 := hrow.cell 1; have q2 := hrow.cell 2; have q3 := hrow.cell 3; have q4 := hrow.cell 4; have q5 := hrow.cell 5; simp only [List.getElem?_cons_zero, List.getElem?_cons_succ] at q0 q1 q2 q3 q4 q5; have fr := hrow.free; have hlast0 := Lib.hid (set45 (set45 (set45 (set45 (set45 (set45 hS hne hnm 0 (.int .i64 2) (by omega)) hne hnm 1 (.int .i64 r.ses) (by omega)) hne hnm 2 (.int .i64 r.epo) (by omega)) hne hnm 3 (.int .i64 (baseL r.l)) (by omega)) hne hnm 4 (.int .i64 r.l.length) (by omega)) hne hnm 5 (.string ⟨(behindL r.l 16).toArray⟩) (by omega)); clear hrow hS))
  all_goals
    have r6 := (((((HRow.out.set 0 (.int .i64 2)).set 1 (.int .i64 r.ses)).set 2 (.int .i64 r.epo)).set 3 (.int .i64 (baseL r.l))).set 4 (.int .i64 r.l.length)).set 5 (.string ⟨(behindL r.l 16).toArray⟩)
    simp only [List.set_cons_zero, List.set_cons_succ] at r6
    have k6 := hlast0.out.2.2.2.2.2.2
    have R6 := Lib.hid r6
    have K6 := Lib.hid k6
    clear r6 k6 hlast0 q0 q1 q2 q3 q4 q5 fr HRow hSb hS0
    generalize World.setCell _ _ _ = w6 at *
    have e0 := R6.out.cell 0
    have e1 := R6.out.cell 1
    have e2 := R6.out.cell 2
    have e3 := R6.out.cell 3
    have e4 := R6.out.cell 4
    have e5 := R6.out.cell 5
    simp only [List.getElem?_cons_zero, List.getElem?_cons_succ] at e0 e1 e2 e3 e4 e5
    go_wp2_with fail
    (try simp only [Exit.inBlock, Exit.then])
    refine bodyPost_ret (v := .agg #[.int .i64 2, .int .i64 r.ses, .int .i64 r.epo, .int .i64 (baseL r.l), .int .i64 r.l.length, .string ⟨(behindL r.l 16).toArray⟩]) ?_ rfl ⟨rfl, ?_⟩
    · rw [results_cell1 rfl]
      go_simp
    · exact Hka.out.then K6.out (by intro x hx; simp at hx; subst hx; right; rw [HRb.out]; exact Nat.le_refl _)
end Go.Proofs.Ytffcambjdlkfbaa
