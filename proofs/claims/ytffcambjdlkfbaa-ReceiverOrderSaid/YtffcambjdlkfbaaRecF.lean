/- Contract of the reference receiver's wrong (signpostref14). -/
import Derived.Test.YtffcambjdlkfbaaRecE
namespace Go.Proofs.Ytffcambjdlkfbaa
open Go.RowKit

theorem frm_new (w : World) (fk ses epo idx tot : Int) (s : ByteArray) {w' : World} (hk : Keeps [] (w.alloc (.cells #[.int .i64 fk, .int .i64 ses, .int .i64 epo, .int .i64 idx, .int .i64 tot, .string s] 54)) w') : FrmAt w' w.heap.size ⟨fk, ses, epo, idx, tot, s⟩ :=
  (RowAt.new w 54 (Frm.cells ⟨fk, ses, epo, idx, tot, s⟩)).keeps hk (by simp)

set_option maxRecDepth 100000 in
set_option maxHeartbeats 4000000 in
theorem wrong81_kind (b gi ci gc cc gd cd t : Nat) (r : Rcv) (f : Frm) (w : World) (h : RefAt w b gi ci gc cc gd cd t r) (h1 : f.fk ≠ 1) :
    Calls Try.prog 81 #[ptr b, f.val] w fun e w' => e = .returned (.int .i64 1) ∧ Keeps [] w w' := by
  have c0 := h.c0
  have c1 := h.c1
  have c2 := h.c2
  have c3 := h.c3
  have HB := Lib.hid h.bools
  clear h
  have hk0 := Lib.hid ((Keeps.refl [] w).alloc (.cells #[.int .i64 f.fk, .int .i64 f.ses, .int .i64 f.epo, .int .i64 f.idx, .int .i64 f.tot, .string f.s] 54))
  unfold Frm.val
  obtain ⟨fk, ses, epo, idx, tot, s⟩ := f
  obtain ⟨rs, re, l, c, d⟩ := r
  dsimp only at *
  have t1 : (fk != 1) = true := by simpa using h1
  go_enter Try.func81, Try.ntmps81
  go_wp2_with fail
  go_ret
  exact ⟨rfl, hk0.out⟩

set_option maxRecDepth 100000 in
set_option maxHeartbeats 4000000 in
theorem wrong81_not (b gi ci gc cc gd cd t : Nat) (r : Rcv) (f : Frm) (w : World) (h : RefAt w b gi ci gc cc gd cd t r) (h1 : f.fk = 1) (h2 : ¬ f.Right) :
    Calls Try.prog 81 #[ptr b, f.val] w fun e w' => e = .returned (.int .i64 1) ∧ Keeps [] w w' := by
  have c0 := h.c0
  have c1 := h.c1
  have c2 := h.c2
  have c3 := h.c3
  have HB := Lib.hid h.bools
  clear h
  have hk0 := Lib.hid ((Keeps.refl [] w).alloc (.cells #[.int .i64 f.fk, .int .i64 f.ses, .int .i64 f.epo, .int .i64 f.idx, .int .i64 f.tot, .string f.s] 54))
  unfold Frm.val
  obtain ⟨fk, ses, epo, idx, tot, s⟩ := f
  obtain ⟨rs, re, l, c, d⟩ := r
  dsimp only at *
  subst h1
  have HR := Lib.hid (show decide (Right 1 ses epo idx tot s) = false from decide_eq_false h2)
  clear h2
  go_enter Try.func81, Try.ntmps81
  go_wp2_with (first | (go_at_call 99; refine (rright99 1 _ _ _ _ _ _).mono ?_; rw [HR.out]; rintro e w' ⟨rfl, hk⟩; have hf := frm_new w _ _ _ _ _ _ hk; have hk := hk0.out.trans hk; have c0 := hk.cell (by simp) c0; have c1 := hk.cell (by simp) c1; have c2 := hk.cell (by simp) c2; have c3 := hk.cell (by simp) c3; have f1 := hf.f1; have f2 := hf.f2; have f3 := hf.f3; have f4 := hf.f4; have f5 := hf.f5; (try have cb := hk.cell (by simp) cb); clear hf; have hk := Lib.hid hk))
  go_ret
  exact ⟨rfl, hk.out⟩

set_option maxRecDepth 100000 in
set_option maxHeartbeats 4000000 in
theorem wrong81_ses (b gi ci gc cc gd cd t : Nat) (r : Rcv) (f : Frm) (w : World) (h : RefAt w b gi ci gc cc gd cd t r) (h1 : f.fk = 1) (h2 : f.Right) (h3 : f.ses ≠ (r.ses : Int)) :
    Calls Try.prog 81 #[ptr b, f.val] w fun e w' => e = .returned (.int .i64 12) ∧ Keeps [] w w' := by
  have c0 := h.c0
  have c1 := h.c1
  have c2 := h.c2
  have c3 := h.c3
  have HB := Lib.hid h.bools
  clear h
  have hk0 := Lib.hid ((Keeps.refl [] w).alloc (.cells #[.int .i64 f.fk, .int .i64 f.ses, .int .i64 f.epo, .int .i64 f.idx, .int .i64 f.tot, .string f.s] 54))
  unfold Frm.val
  obtain ⟨fk, ses, epo, idx, tot, s⟩ := f
  obtain ⟨rs, re, l, c, d⟩ := r
  dsimp only at *
  subst h1
  have HR := Lib.hid (show decide (Right 1 ses epo idx tot s) = true from decide_eq_true h2)
  clear h2
  have t3 : (ses == (rs : Int)) = false := by simpa using h3
  have t3' : (ses != (rs : Int)) = true := by simpa using h3
  clear h3
  go_enter Try.func81, Try.ntmps81
  go_wp2_with (first | (go_at_call 99; refine (rright99 1 _ _ _ _ _ _).mono ?_; rw [HR.out]; rintro e w' ⟨rfl, hk⟩; have hf := frm_new w _ _ _ _ _ _ hk; have hk := hk0.out.trans hk; have c0 := hk.cell (by simp) c0; have c1 := hk.cell (by simp) c1; have c2 := hk.cell (by simp) c2; have c3 := hk.cell (by simp) c3; have f1 := hf.f1; have f2 := hf.f2; have f3 := hf.f3; have f4 := hf.f4; have f5 := hf.f5; (try have cb := hk.cell (by simp) cb); clear hf; have hk := Lib.hid hk))
  go_quiet (fail)
  go_wp2_with fail
  go_ret
  exact ⟨rfl, by first | exact hk.out.drewN _ | exact (hk.out.drewN _).drewN _ | exact ((hk.out.drewN _).drewN _).drewN _ | exact (((hk.out.drewN _).drewN _).drewN _).drewN _⟩

set_option maxRecDepth 100000 in
set_option maxHeartbeats 4000000 in
theorem wrong81_epo (b gi ci gc cc gd cd t : Nat) (r : Rcv) (f : Frm) (w : World) (h : RefAt w b gi ci gc cc gd cd t r) (h1 : f.fk = 1) (h2 : f.Right) (h3 : f.ses = (r.ses : Int)) (h4 : f.epo ≠ (r.epo : Int)) :
    Calls Try.prog 81 #[ptr b, f.val] w fun e w' => e = .returned (.int .i64 13) ∧ Keeps [] w w' := by
  have c0 := h.c0
  have c1 := h.c1
  have c2 := h.c2
  have c3 := h.c3
  have HB := Lib.hid h.bools
  clear h
  have hk0 := Lib.hid ((Keeps.refl [] w).alloc (.cells #[.int .i64 f.fk, .int .i64 f.ses, .int .i64 f.epo, .int .i64 f.idx, .int .i64 f.tot, .string f.s] 54))
  unfold Frm.val
  obtain ⟨fk, ses, epo, idx, tot, s⟩ := f
  obtain ⟨rs, re, l, c, d⟩ := r
  dsimp only at *
  subst h1
  have HR := Lib.hid (show decide (Right 1 ses epo idx tot s) = true from decide_eq_true h2)
  clear h2
  subst h3
  have t4' : (epo != (re : Int)) = true := by simpa using h4
  go_enter Try.func81, Try.ntmps81
  go_wp2_with (first | (go_at_call 99; refine (rright99 1 _ _ _ _ _ _).mono ?_; rw [HR.out]; rintro e w' ⟨rfl, hk⟩; have hf := frm_new w _ _ _ _ _ _ hk; have hk := hk0.out.trans hk; have c0 := hk.cell (by simp) c0; have c1 := hk.cell (by simp) c1; have c2 := hk.cell (by simp) c2; have c3 := hk.cell (by simp) c3; have f1 := hf.f1; have f2 := hf.f2; have f3 := hf.f3; have f4 := hf.f4; have f5 := hf.f5; (try have cb := hk.cell (by simp) cb); clear hf; have hk := Lib.hid hk))
  go_quiet (fail)
  go_wp2_with fail
  go_quiet (fail)
  go_wp2_with fail
  go_ret
  exact ⟨rfl, by first | exact hk.out.drewN _ | exact (hk.out.drewN _).drewN _ | exact ((hk.out.drewN _).drewN _).drewN _ | exact (((hk.out.drewN _).drewN _).drewN _).drewN _⟩

set_option maxRecDepth 100000 in
set_option maxHeartbeats 4000000 in
theorem wrong81_tot (b gi ci gc cc gd cd t : Nat) (r : Rcv) (f : Frm) (w : World) (h : RefAt w b gi ci gc cc gd cd t r) (h1 : f.fk = 1) (h2 : f.Right) (h3 : f.ses = (r.ses : Int)) (h4 : f.epo = (r.epo : Int)) (h5 : f.tot ≠ (r.l.length : Int)) :
    Calls Try.prog 81 #[ptr b, f.val] w fun e w' => e = .returned (.int .i64 14) ∧ Keeps [] w w' := by
  have c0 := h.c0
  have c1 := h.c1
  have c2 := h.c2
  have c3 := h.c3
  have HB := Lib.hid h.bools
  clear h
  have hk0 := Lib.hid ((Keeps.refl [] w).alloc (.cells #[.int .i64 f.fk, .int .i64 f.ses, .int .i64 f.epo, .int .i64 f.idx, .int .i64 f.tot, .string f.s] 54))
  unfold Frm.val
  obtain ⟨fk, ses, epo, idx, tot, s⟩ := f
  obtain ⟨rs, re, l, c, d⟩ := r
  dsimp only at *
  subst h1
  have HR := Lib.hid (show decide (Right 1 ses epo idx tot s) = true from decide_eq_true h2)
  clear h2
  subst h3
  subst h4
  have t5' : (tot != (l.length : Int)) = true := by simpa using h5
  go_enter Try.func81, Try.ntmps81
  go_wp2_with (first | (go_at_call 99; refine (rright99 1 _ _ _ _ _ _).mono ?_; rw [HR.out]; rintro e w' ⟨rfl, hk⟩; have hf := frm_new w _ _ _ _ _ _ hk; have hk := hk0.out.trans hk; have c0 := hk.cell (by simp) c0; have c1 := hk.cell (by simp) c1; have c2 := hk.cell (by simp) c2; have c3 := hk.cell (by simp) c3; have f1 := hf.f1; have f2 := hf.f2; have f3 := hf.f3; have f4 := hf.f4; have f5 := hf.f5; (try have cb := hk.cell (by simp) cb); clear hf; have hk := Lib.hid hk))
  go_quiet (fail)
  go_wp2_with fail
  go_quiet (fail)
  go_wp2_with fail
  go_quiet (fail)
  go_wp2_with fail
  go_ret
  exact ⟨rfl, by first | exact hk.out.drewN _ | exact (hk.out.drewN _).drewN _ | exact ((hk.out.drewN _).drewN _).drewN _ | exact (((hk.out.drewN _).drewN _).drewN _).drewN _⟩

set_option maxRecDepth 100000 in
set_option maxHeartbeats 4000000 in
theorem wrong81_idx (b gi ci gc cc gd cd t : Nat) (r : Rcv) (f : Frm) (w : World) (h : RefAt w b gi ci gc cc gd cd t r) (h1 : f.fk = 1) (h2 : f.Right) (h3 : f.ses = (r.ses : Int)) (h4 : f.epo = (r.epo : Int)) (h5 : f.tot = (r.l.length : Int)) (h6 : f.tot ≤ f.idx) :
    Calls Try.prog 81 #[ptr b, f.val] w fun e w' => e = .returned (.int .i64 14) ∧ Keeps [] w w' := by
  have c0 := h.c0
  have c1 := h.c1
  have c2 := h.c2
  have c3 := h.c3
  have HB := Lib.hid h.bools
  clear h
  have hk0 := Lib.hid ((Keeps.refl [] w).alloc (.cells #[.int .i64 f.fk, .int .i64 f.ses, .int .i64 f.epo, .int .i64 f.idx, .int .i64 f.tot, .string f.s] 54))
  unfold Frm.val
  obtain ⟨fk, ses, epo, idx, tot, s⟩ := f
  obtain ⟨rs, re, l, c, d⟩ := r
  dsimp only at *
  subst h1
  have HR := Lib.hid (show decide (Right 1 ses epo idx tot s) = true from decide_eq_true h2)
  clear h2
  subst h3
  subst h4
  subst h5
  have t6 : decide ((l.length : Int) ≤ idx) = true := decide_eq_true h6
  clear h6
  go_enter Try.func81, Try.ntmps81
  go_wp2_with (first | (go_at_call 99; refine (rright99 1 _ _ _ _ _ _).mono ?_; rw [HR.out]; rintro e w' ⟨rfl, hk⟩; have hf := frm_new w _ _ _ _ _ _ hk; have hk := hk0.out.trans hk; have c0 := hk.cell (by simp) c0; have c1 := hk.cell (by simp) c1; have c2 := hk.cell (by simp) c2; have c3 := hk.cell (by simp) c3; have f1 := hf.f1; have f2 := hf.f2; have f3 := hf.f3; have f4 := hf.f4; have f5 := hf.f5; (try have cb := hk.cell (by simp) cb); clear hf; have hk := Lib.hid hk))
  go_quiet (fail)
  go_wp2_with fail
  go_quiet (fail)
  go_wp2_with fail
  go_quiet (fail)
  go_wp2_with fail
  go_ret
  exact ⟨rfl, by first | exact hk.out.drewN _ | exact (hk.out.drewN _).drewN _ | exact ((hk.out.drewN _).drewN _).drewN _ | exact (((hk.out.drewN _).drewN _).drewN _).drewN _⟩

set_option maxRecDepth 100000 in
set_option maxHeartbeats 4000000 in
theorem wrong81_big (b gi ci gc cc gd cd t : Nat) (r : Rcv) (f : Frm) (w : World) (h : RefAt w b gi ci gc cc gd cd t r) (h1 : f.fk = 1) (h2 : f.Right) (h3 : f.ses = (r.ses : Int)) (h4 : f.epo = (r.epo : Int)) (h5 : f.tot = (r.l.length : Int)) (h6 : ¬ f.tot ≤ f.idx) (h7 : 1000 < f.s.size) :
    Calls Try.prog 81 #[ptr b, f.val] w fun e w' => e = .returned (.int .i64 7) ∧ Keeps [] w w' := by
  have c0 := h.c0
  have c1 := h.c1
  have c2 := h.c2
  have c3 := h.c3
  have HB := Lib.hid h.bools
  clear h
  have hk0 := Lib.hid ((Keeps.refl [] w).alloc (.cells #[.int .i64 f.fk, .int .i64 f.ses, .int .i64 f.epo, .int .i64 f.idx, .int .i64 f.tot, .string f.s] 54))
  unfold Frm.val
  obtain ⟨fk, ses, epo, idx, tot, s⟩ := f
  obtain ⟨rs, re, l, c, d⟩ := r
  dsimp only at *
  subst h1
  have HR := Lib.hid (show decide (Right 1 ses epo idx tot s) = true from decide_eq_true h2)
  clear h2
  subst h3
  subst h4
  subst h5
  have t6 : decide ((l.length : Int) ≤ idx) = false := decide_eq_false h6
  clear h6
  have t7 : decide ((1000 : Int) < (s.size : Int)) = true := decide_eq_true (by omega)
  clear h7
  go_enter Try.func81, Try.ntmps81
  go_wp2_with (first | (go_at_call 99; refine (rright99 1 _ _ _ _ _ _).mono ?_; rw [HR.out]; rintro e w' ⟨rfl, hk⟩; have hf := frm_new w _ _ _ _ _ _ hk; have hk := hk0.out.trans hk; have c0 := hk.cell (by simp) c0; have c1 := hk.cell (by simp) c1; have c2 := hk.cell (by simp) c2; have c3 := hk.cell (by simp) c3; have f1 := hf.f1; have f2 := hf.f2; have f3 := hf.f3; have f4 := hf.f4; have f5 := hf.f5; (try have cb := hk.cell (by simp) cb); clear hf; have hk := Lib.hid hk))
  go_quiet (fail)
  go_wp2_with fail
  go_quiet (fail)
  go_wp2_with fail
  go_quiet (fail)
  go_wp2_with fail
  go_ret
  exact ⟨rfl, by first | exact hk.out.drewN _ | exact (hk.out.drewN _).drewN _ | exact ((hk.out.drewN _).drewN _).drewN _ | exact (((hk.out.drewN _).drewN _).drewN _).drewN _⟩

set_option maxRecDepth 100000 in
set_option maxHeartbeats 4000000 in
theorem wrong81_yes (b gi ci gc cc gd cd t : Nat) (r : Rcv) (f : Frm) (w : World) (h : RefAt w b gi ci gc cc gd cd t r) (h1 : f.fk = 1) (h2 : f.Right) (h3 : f.ses = (r.ses : Int)) (h4 : f.epo = (r.epo : Int)) (h5 : f.tot = (r.l.length : Int)) (h6 : ¬ f.tot ≤ f.idx) (h7 : ¬ 1000 < f.s.size) (i : Nat) (hi : f.idx = i) (h8 : at' r.l i = true) :
    Calls Try.prog 81 #[ptr b, f.val] w fun e w' => e = .returned (.int .i64 9) ∧ Keeps [] w w' := by
  have c0 := h.c0
  have c1 := h.c1
  have c2 := h.c2
  have c3 := h.c3
  have HB := Lib.hid h.bools
  clear h
  have hk0 := Lib.hid ((Keeps.refl [] w).alloc (.cells #[.int .i64 f.fk, .int .i64 f.ses, .int .i64 f.epo, .int .i64 f.idx, .int .i64 f.tot, .string f.s] 54))
  unfold Frm.val
  obtain ⟨fk, ses, epo, idx, tot, s⟩ := f
  obtain ⟨rs, re, l, c, d⟩ := r
  dsimp only at *
  subst h1
  have HR := Lib.hid (show decide (Right 1 ses epo idx tot s) = true from decide_eq_true h2)
  clear h2
  subst h3
  subst h4
  subst h5
  subst hi
  have hil : (i : Int) < (l.length : Int) := by omega
  have t6 : decide ((l.length : Int) ≤ (i : Int)) = false := decide_eq_false h6
  have t6' : decide (l.length ≤ i) = false := decide_eq_false (by omega)
  clear h6
  have t7 : decide ((1000 : Int) < (s.size : Int)) = false := decide_eq_false (by omega)
  clear h7
  have cb := HB.out.cell i (by omega)
  rw [h8] at cb
  clear h8
  go_enter Try.func81, Try.ntmps81
  go_wp2_with (first | (go_at_call 99; refine (rright99 1 _ _ _ _ _ _).mono ?_; rw [HR.out]; rintro e w' ⟨rfl, hk⟩; have hf := frm_new w _ _ _ _ _ _ hk; have hk := hk0.out.trans hk; have c0 := hk.cell (by simp) c0; have c1 := hk.cell (by simp) c1; have c2 := hk.cell (by simp) c2; have c3 := hk.cell (by simp) c3; have f1 := hf.f1; have f2 := hf.f2; have f3 := hf.f3; have f4 := hf.f4; have f5 := hf.f5; (try have cb := hk.cell (by simp) cb); clear hf; have hk := Lib.hid hk))
  go_quiet (fail)
  go_wp2_with fail
  go_quiet (fail)
  go_wp2_with fail
  go_quiet (fail)
  go_wp2_with fail
  go_quiet (fail)
  go_wp2_with fail
  go_ret
  exact ⟨rfl, by first | exact hk.out.drewN _ | exact (hk.out.drewN _).drewN _ | exact ((hk.out.drewN _).drewN _).drewN _ | exact (((hk.out.drewN _).drewN _).drewN _).drewN _⟩

set_option maxRecDepth 100000 in
set_option maxHeartbeats 4000000 in
theorem wrong81_no (b gi ci gc cc gd cd t : Nat) (r : Rcv) (f : Frm) (w : World) (h : RefAt w b gi ci gc cc gd cd t r) (h1 : f.fk = 1) (h2 : f.Right) (h3 : f.ses = (r.ses : Int)) (h4 : f.epo = (r.epo : Int)) (h5 : f.tot = (r.l.length : Int)) (h6 : ¬ f.tot ≤ f.idx) (h7 : ¬ 1000 < f.s.size) (i : Nat) (hi : f.idx = i) (h8 : at' r.l i = false) :
    Calls Try.prog 81 #[ptr b, f.val] w fun e w' => e = .returned (.int .i64 0) ∧ Keeps [] w w' := by
  have c0 := h.c0
  have c1 := h.c1
  have c2 := h.c2
  have c3 := h.c3
  have HB := Lib.hid h.bools
  clear h
  have hk0 := Lib.hid ((Keeps.refl [] w).alloc (.cells #[.int .i64 f.fk, .int .i64 f.ses, .int .i64 f.epo, .int .i64 f.idx, .int .i64 f.tot, .string f.s] 54))
  unfold Frm.val
  obtain ⟨fk, ses, epo, idx, tot, s⟩ := f
  obtain ⟨rs, re, l, c, d⟩ := r
  dsimp only at *
  subst h1
  have HR := Lib.hid (show decide (Right 1 ses epo idx tot s) = true from decide_eq_true h2)
  clear h2
  subst h3
  subst h4
  subst h5
  subst hi
  have hil : (i : Int) < (l.length : Int) := by omega
  have t6 : decide ((l.length : Int) ≤ (i : Int)) = false := decide_eq_false h6
  have t6' : decide (l.length ≤ i) = false := decide_eq_false (by omega)
  clear h6
  have t7 : decide ((1000 : Int) < (s.size : Int)) = false := decide_eq_false (by omega)
  clear h7
  have cb := HB.out.cell i (by omega)
  rw [h8] at cb
  clear h8
  go_enter Try.func81, Try.ntmps81
  go_wp2_with (first | (go_at_call 99; refine (rright99 1 _ _ _ _ _ _).mono ?_; rw [HR.out]; rintro e w' ⟨rfl, hk⟩; have hf := frm_new w _ _ _ _ _ _ hk; have hk := hk0.out.trans hk; have c0 := hk.cell (by simp) c0; have c1 := hk.cell (by simp) c1; have c2 := hk.cell (by simp) c2; have c3 := hk.cell (by simp) c3; have f1 := hf.f1; have f2 := hf.f2; have f3 := hf.f3; have f4 := hf.f4; have f5 := hf.f5; (try have cb := hk.cell (by simp) cb); clear hf; have hk := Lib.hid hk))
  go_quiet (fail)
  go_wp2_with fail
  go_quiet (fail)
  go_wp2_with fail
  go_quiet (fail)
  go_wp2_with fail
  go_quiet (fail)
  go_wp2_with fail
  go_ret
  exact ⟨rfl, by first | exact hk.out.drewN _ | exact (hk.out.drewN _).drewN _ | exact ((hk.out.drewN _).drewN _).drewN _ | exact (((hk.out.drewN _).drewN _).drewN _).drewN _⟩

theorem wrong81 (b gi ci gc cc gd cd t : Nat) (r : Rcv) (f : Frm) (w : World) (h : RefAt w b gi ci gc cc gd cd t r) :
    Calls Try.prog 81 #[ptr b, f.val] w fun e w' => e = .returned (.int .i64 (wrongE r f)) ∧ Keeps [] w w' := by
  unfold wrongE
  by_cases h1 : f.fk = 1
  · rw [if_neg (by simpa using h1)]
    by_cases h2 : f.Right
    · rw [if_neg (by simpa using h2)]
      by_cases h3 : f.ses = (r.ses : Int)
      · rw [if_neg (by simpa using h3)]
        by_cases h4 : f.epo = (r.epo : Int)
        · rw [if_neg (by simpa using h4)]
          by_cases h5 : f.tot = (r.l.length : Int)
          · rw [if_neg (by simpa using h5)]
            by_cases h6 : f.tot ≤ f.idx
            · rw [if_pos h6]; exact wrong81_idx b gi ci gc cc gd cd t r f w h h1 h2 h3 h4 h5 h6
            · rw [if_neg h6]
              by_cases h7 : 1000 < f.s.size
              · rw [if_pos h7]; exact wrong81_big b gi ci gc cc gd cd t r f w h h1 h2 h3 h4 h5 h6 h7
              · rw [if_neg h7]
                have hi : f.idx = (f.idx.toNat : Int) := by
                  have h0 : 0 ≤ f.idx := h2.2.2.2.1.1
                  omega
                by_cases h8 : at' r.l f.idx.toNat = true
                · rw [if_pos h8]; exact wrong81_yes b gi ci gc cc gd cd t r f w h h1 h2 h3 h4 h5 h6 h7 _ hi h8
                · rw [if_neg h8]; exact wrong81_no b gi ci gc cc gd cd t r f w h h1 h2 h3 h4 h5 h6 h7 _ hi (by simpa using h8)
          · rw [if_pos h5]; exact wrong81_tot b gi ci gc cc gd cd t r f w h h1 h2 h3 h4 h5
        · rw [if_pos h4]; exact wrong81_epo b gi ci gc cc gd cd t r f w h h1 h2 h3 h4
      · rw [if_pos h3]; exact wrong81_ses b gi ci gc cc gd cd t r f w h h1 h2 h3
    · rw [if_pos h2]; exact wrong81_not b gi ci gc cc gd cd t r f w h h1 h2
  · rw [if_pos h1]; exact wrong81_kind b gi ci gc cc gd cd t r f w h h1
end Go.Proofs.Ytffcambjdlkfbaa
