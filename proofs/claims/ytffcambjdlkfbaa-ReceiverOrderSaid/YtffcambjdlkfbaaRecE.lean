/- Contracts of the receiver's wrong (package receiver). -/
import Derived.Test.YtffcambjdlkfbaaRecD
namespace Go.Proofs.Ytffcambjdlkfbaa
open Go.RowKit

/-- A frame's block. -/
def FrmAt (w : World) (fb : Nat) (f : Frm) : Prop := RowAt w fb 54 f.cells
section
variable {w : World} {fb : Nat} {f : Frm}
theorem FrmAt.f0 (h : FrmAt w fb f) : w.cell? ⟨fb, 0, none⟩ = some (.int .i64 f.fk) := by rw [RowAt.cell h]; rfl
theorem FrmAt.f1 (h : FrmAt w fb f) : w.cell? ⟨fb, 1, none⟩ = some (.int .i64 f.ses) := by rw [RowAt.cell h]; rfl
theorem FrmAt.f2 (h : FrmAt w fb f) : w.cell? ⟨fb, 2, none⟩ = some (.int .i64 f.epo) := by rw [RowAt.cell h]; rfl
theorem FrmAt.f3 (h : FrmAt w fb f) : w.cell? ⟨fb, 3, none⟩ = some (.int .i64 f.idx) := by rw [RowAt.cell h]; rfl
theorem FrmAt.f4 (h : FrmAt w fb f) : w.cell? ⟨fb, 4, none⟩ = some (.int .i64 f.tot) := by rw [RowAt.cell h]; rfl
theorem FrmAt.f5 (h : FrmAt w fb f) : w.cell? ⟨fb, 5, none⟩ = some (.string f.s) := by rw [RowAt.cell h]; rfl
end

theorem quiet_same2 {P : Program} {f : FuncId} {args : Array Value} {w : World} {b n : Nat} {v : Value}
    (h : Calls P f args (w.drewN (b + n)) fun e w' => e = .returned v ∧ w.drewN (b + n) = w') : Calls P f args (w.drewN (b + n)) fun e w'' => e = .returned v ∧ ∃ m, w'' = w.drewN (b + m) :=
  h.mono fun _ _ ⟨he, hm⟩ => ⟨he, n, hm.symm⟩

set_option maxRecDepth 100000 in
set_option maxHeartbeats 4000000 in
theorem wrong80_kind (b m g cap k t : Nat) (r : Rcv) (fb : Nat) (f : Frm) (w : World) (h : RcvAt w b m g cap k t r) (hf : FrmAt w fb f) (h1 : f.fk ≠ 1) :
    Calls Try.prog 80 #[ptr b, ptr fb] w fun e w' => e = .returned (.int .i64 1) ∧ Keeps [] w w' := by
  have f0 := hf.f0
  have f1 := hf.f1
  have f2 := hf.f2
  have f3 := hf.f3
  have f4 := hf.f4
  have f5 := hf.f5
  have c0 := h.c0
  have c1 := h.c1
  have c2 := h.c2
  have c3 := h.c3
  have HM := Lib.hid h.map
  clear hf h
  obtain ⟨fk, ses, epo, idx, tot, s⟩ := f
  obtain ⟨rs, re, l, c, d⟩ := r
  dsimp only at *
  have t1 : (fk != 1) = true := by simpa using h1
  go_enter Try.func80, Try.ntmps80
  go_wp2_with fail
  go_ret
  exact ⟨rfl, Keeps.refl _ _⟩

set_option maxRecDepth 100000 in
set_option maxHeartbeats 4000000 in
theorem wrong80_not (b m g cap k t : Nat) (r : Rcv) (fb : Nat) (f : Frm) (w : World) (h : RcvAt w b m g cap k t r) (hf : FrmAt w fb f) (h1 : f.fk = 1) (h2 : ¬ f.Right) :
    Calls Try.prog 80 #[ptr b, ptr fb] w fun e w' => e = .returned (.int .i64 1) ∧ Keeps [] w w' := by
  have f0 := hf.f0
  have f1 := hf.f1
  have f2 := hf.f2
  have f3 := hf.f3
  have f4 := hf.f4
  have f5 := hf.f5
  have c0 := h.c0
  have c1 := h.c1
  have c2 := h.c2
  have c3 := h.c3
  have HM := Lib.hid h.map
  clear hf h
  obtain ⟨fk, ses, epo, idx, tot, s⟩ := f
  obtain ⟨rs, re, l, c, d⟩ := r
  dsimp only at *
  subst h1
  have HR := Lib.hid (show decide (Right 1 ses epo idx tot s) = false from decide_eq_false h2)
  clear h2
  go_enter Try.func80, Try.ntmps80
  go_wp2_with (first | (go_at_call 98; refine (right98 1 _ _ _ _ _ _).mono ?_; rw [HR.out]; rintro e w' ⟨rfl, hk⟩; have f1 := hk.cell (by simp) f1; have f2 := hk.cell (by simp) f2; have f3 := hk.cell (by simp) f3; have f4 := hk.cell (by simp) f4; have f5 := hk.cell (by simp) f5; have c0 := hk.cell (by simp) c0; have c1 := hk.cell (by simp) c1; have c2 := hk.cell (by simp) c2; have c3 := hk.cell (by simp) c3; have HM2 := Lib.hid (HM.out.keeps hk (by simp)); have hk := Lib.hid hk))
  go_ret
  exact ⟨rfl, hk.out⟩

set_option maxRecDepth 100000 in
set_option maxHeartbeats 4000000 in
theorem wrong80_ses (b m g cap k t : Nat) (r : Rcv) (fb : Nat) (f : Frm) (w : World) (h : RcvAt w b m g cap k t r) (hf : FrmAt w fb f) (h1 : f.fk = 1) (h2 : f.Right) (h3 : f.ses ≠ (r.ses : Int)) :
    Calls Try.prog 80 #[ptr b, ptr fb] w fun e w' => e = .returned (.int .i64 12) ∧ Keeps [] w w' := by
  have f0 := hf.f0
  have f1 := hf.f1
  have f2 := hf.f2
  have f3 := hf.f3
  have f4 := hf.f4
  have f5 := hf.f5
  have c0 := h.c0
  have c1 := h.c1
  have c2 := h.c2
  have c3 := h.c3
  have HM := Lib.hid h.map
  clear hf h
  obtain ⟨fk, ses, epo, idx, tot, s⟩ := f
  obtain ⟨rs, re, l, c, d⟩ := r
  dsimp only at *
  subst h1
  have HR := Lib.hid (show decide (Right 1 ses epo idx tot s) = true from decide_eq_true h2)
  clear h2
  have t3 : (ses == (rs : Int)) = false := by simpa using h3
  have t3' : (ses != (rs : Int)) = true := by simpa using h3
  clear h3
  go_enter Try.func80, Try.ntmps80
  go_wp2_with (first | (go_at_call 98; refine (right98 1 _ _ _ _ _ _).mono ?_; rw [HR.out]; rintro e w' ⟨rfl, hk⟩; have f1 := hk.cell (by simp) f1; have f2 := hk.cell (by simp) f2; have f3 := hk.cell (by simp) f3; have f4 := hk.cell (by simp) f4; have f5 := hk.cell (by simp) f5; have c0 := hk.cell (by simp) c0; have c1 := hk.cell (by simp) c1; have c2 := hk.cell (by simp) c2; have c3 := hk.cell (by simp) c3; have HM2 := Lib.hid (HM.out.keeps hk (by simp)); have hk := Lib.hid hk))
  go_quiet (fail)
  go_wp2_with fail
  go_ret
  exact ⟨rfl, by first | exact hk.out.trans (Keeps.of_drewN _ _) | exact (hk.out.drewN _).drewN _ | exact ((hk.out.drewN _).drewN _).drewN _ | exact (((hk.out.drewN _).drewN _).drewN _).drewN _⟩

set_option maxRecDepth 100000 in
set_option maxHeartbeats 4000000 in
theorem wrong80_epo (b m g cap k t : Nat) (r : Rcv) (fb : Nat) (f : Frm) (w : World) (h : RcvAt w b m g cap k t r) (hf : FrmAt w fb f) (h1 : f.fk = 1) (h2 : f.Right) (h3 : f.ses = (r.ses : Int)) (h4 : f.epo ≠ (r.epo : Int)) :
    Calls Try.prog 80 #[ptr b, ptr fb] w fun e w' => e = .returned (.int .i64 13) ∧ Keeps [] w w' := by
  have f0 := hf.f0
  have f1 := hf.f1
  have f2 := hf.f2
  have f3 := hf.f3
  have f4 := hf.f4
  have f5 := hf.f5
  have c0 := h.c0
  have c1 := h.c1
  have c2 := h.c2
  have c3 := h.c3
  have HM := Lib.hid h.map
  clear hf h
  obtain ⟨fk, ses, epo, idx, tot, s⟩ := f
  obtain ⟨rs, re, l, c, d⟩ := r
  dsimp only at *
  subst h1
  have HR := Lib.hid (show decide (Right 1 ses epo idx tot s) = true from decide_eq_true h2)
  clear h2
  subst h3
  have t4' : (epo != (re : Int)) = true := by simpa using h4
  go_enter Try.func80, Try.ntmps80
  go_wp2_with (first | (go_at_call 98; refine (right98 1 _ _ _ _ _ _).mono ?_; rw [HR.out]; rintro e w' ⟨rfl, hk⟩; have f1 := hk.cell (by simp) f1; have f2 := hk.cell (by simp) f2; have f3 := hk.cell (by simp) f3; have f4 := hk.cell (by simp) f4; have f5 := hk.cell (by simp) f5; have c0 := hk.cell (by simp) c0; have c1 := hk.cell (by simp) c1; have c2 := hk.cell (by simp) c2; have c3 := hk.cell (by simp) c3; have HM2 := Lib.hid (HM.out.keeps hk (by simp)); have hk := Lib.hid hk))
  go_quiet (fail)
  go_wp2_with fail
  go_quiet (fail)
  go_wp2_with fail
  go_ret
  exact ⟨rfl, by first | exact hk.out.trans (Keeps.of_drewN _ _) | exact (hk.out.drewN _).drewN _ | exact ((hk.out.drewN _).drewN _).drewN _ | exact (((hk.out.drewN _).drewN _).drewN _).drewN _⟩

set_option maxRecDepth 100000 in
set_option maxHeartbeats 4000000 in
theorem wrong80_tot (b m g cap k t : Nat) (r : Rcv) (fb : Nat) (f : Frm) (w : World) (h : RcvAt w b m g cap k t r) (hf : FrmAt w fb f) (h1 : f.fk = 1) (h2 : f.Right) (h3 : f.ses = (r.ses : Int)) (h4 : f.epo = (r.epo : Int)) (h5 : f.tot ≠ (r.l.length : Int)) :
    Calls Try.prog 80 #[ptr b, ptr fb] w fun e w' => e = .returned (.int .i64 14) ∧ Keeps [] w w' := by
  have f0 := hf.f0
  have f1 := hf.f1
  have f2 := hf.f2
  have f3 := hf.f3
  have f4 := hf.f4
  have f5 := hf.f5
  have c0 := h.c0
  have c1 := h.c1
  have c2 := h.c2
  have c3 := h.c3
  have HM := Lib.hid h.map
  clear hf h
  obtain ⟨fk, ses, epo, idx, tot, s⟩ := f
  obtain ⟨rs, re, l, c, d⟩ := r
  dsimp only at *
  subst h1
  have HR := Lib.hid (show decide (Right 1 ses epo idx tot s) = true from decide_eq_true h2)
  clear h2
  subst h3
  subst h4
  have t5' : (tot != (l.length : Int)) = true := by simpa using h5
  go_enter Try.func80, Try.ntmps80
  go_wp2_with (first | (go_at_call 98; refine (right98 1 _ _ _ _ _ _).mono ?_; rw [HR.out]; rintro e w' ⟨rfl, hk⟩; have f1 := hk.cell (by simp) f1; have f2 := hk.cell (by simp) f2; have f3 := hk.cell (by simp) f3; have f4 := hk.cell (by simp) f4; have f5 := hk.cell (by simp) f5; have c0 := hk.cell (by simp) c0; have c1 := hk.cell (by simp) c1; have c2 := hk.cell (by simp) c2; have c3 := hk.cell (by simp) c3; have HM2 := Lib.hid (HM.out.keeps hk (by simp)); have hk := Lib.hid hk))
  go_quiet (fail)
  go_wp2_with fail
  go_quiet (fail)
  go_wp2_with fail
  go_quiet (fail)
  go_wp2_with fail
  go_ret
  exact ⟨rfl, by first | exact hk.out.trans (Keeps.of_drewN _ _) | exact (hk.out.drewN _).drewN _ | exact ((hk.out.drewN _).drewN _).drewN _ | exact (((hk.out.drewN _).drewN _).drewN _).drewN _⟩

set_option maxRecDepth 100000 in
set_option maxHeartbeats 4000000 in
theorem wrong80_idx (b m g cap k t : Nat) (r : Rcv) (fb : Nat) (f : Frm) (w : World) (h : RcvAt w b m g cap k t r) (hf : FrmAt w fb f) (h1 : f.fk = 1) (h2 : f.Right) (h3 : f.ses = (r.ses : Int)) (h4 : f.epo = (r.epo : Int)) (h5 : f.tot = (r.l.length : Int)) (h6 : f.tot ≤ f.idx) :
    Calls Try.prog 80 #[ptr b, ptr fb] w fun e w' => e = .returned (.int .i64 14) ∧ Keeps [] w w' := by
  have f0 := hf.f0
  have f1 := hf.f1
  have f2 := hf.f2
  have f3 := hf.f3
  have f4 := hf.f4
  have f5 := hf.f5
  have c0 := h.c0
  have c1 := h.c1
  have c2 := h.c2
  have c3 := h.c3
  have HM := Lib.hid h.map
  clear hf h
  obtain ⟨fk, ses, epo, idx, tot, s⟩ := f
  obtain ⟨rs, re, l, c, d⟩ := r
  dsimp only at *
  subst h1
  have HR := Lib.hid (show decide (Right 1 ses epo idx tot s) = true from decide_eq_true h2)
  clear h2
  subst h3
  subst h4
  subst h5
  have t6 : decide ((l.length : Int) ≤ idx) = true := decide_eq_true h6
  clear h6
  go_enter Try.func80, Try.ntmps80
  go_wp2_with (first | (go_at_call 98; refine (right98 1 _ _ _ _ _ _).mono ?_; rw [HR.out]; rintro e w' ⟨rfl, hk⟩; have f1 := hk.cell (by simp) f1; have f2 := hk.cell (by simp) f2; have f3 := hk.cell (by simp) f3; have f4 := hk.cell (by simp) f4; have f5 := hk.cell (by simp) f5; have c0 := hk.cell (by simp) c0; have c1 := hk.cell (by simp) c1; have c2 := hk.cell (by simp) c2; have c3 := hk.cell (by simp) c3; have HM2 := Lib.hid (HM.out.keeps hk (by simp)); have hk := Lib.hid hk))
  go_quiet (fail)
  go_wp2_with fail
  go_quiet (fail)
  go_wp2_with fail
  go_quiet (fail)
  go_wp2_with fail
  go_ret
  exact ⟨rfl, by first | exact hk.out.trans (Keeps.of_drewN _ _) | exact (hk.out.drewN _).drewN _ | exact ((hk.out.drewN _).drewN _).drewN _ | exact (((hk.out.drewN _).drewN _).drewN _).drewN _⟩

set_option maxRecDepth 100000 in
set_option maxHeartbeats 4000000 in
theorem wrong80_big (b m g cap k t : Nat) (r : Rcv) (fb : Nat) (f : Frm) (w : World) (h : RcvAt w b m g cap k t r) (hf : FrmAt w fb f) (h1 : f.fk = 1) (h2 : f.Right) (h3 : f.ses = (r.ses : Int)) (h4 : f.epo = (r.epo : Int)) (h5 : f.tot = (r.l.length : Int)) (h6 : ¬ f.tot ≤ f.idx) (h7 : 1000 < f.s.size) :
    Calls Try.prog 80 #[ptr b, ptr fb] w fun e w' => e = .returned (.int .i64 7) ∧ Keeps [] w w' := by
  have f0 := hf.f0
  have f1 := hf.f1
  have f2 := hf.f2
  have f3 := hf.f3
  have f4 := hf.f4
  have f5 := hf.f5
  have c0 := h.c0
  have c1 := h.c1
  have c2 := h.c2
  have c3 := h.c3
  have HM := Lib.hid h.map
  clear hf h
  obtain ⟨fk, ses, epo, idx, tot, s⟩ := f
  obtain ⟨rs, re, l, c, d⟩ := r
  dsimp only at *
  subst h1
  have HR := Lib.hid (show decide (Right 1 ses epo idx tot s) = true from decide_eq_true h2)
  clear h2
  subst h3
  subst h4
  subst h5
  have t6 : decide ((l.length : Int) ≤ idx) = false := decide_eq_false h6
  clear h6
  have t7 : decide ((1000 : Int) < (s.size : Int)) = true := decide_eq_true (by omega)
  clear h7
  go_enter Try.func80, Try.ntmps80
  go_wp2_with (first | (go_at_call 98; refine (right98 1 _ _ _ _ _ _).mono ?_; rw [HR.out]; rintro e w' ⟨rfl, hk⟩; have f1 := hk.cell (by simp) f1; have f2 := hk.cell (by simp) f2; have f3 := hk.cell (by simp) f3; have f4 := hk.cell (by simp) f4; have f5 := hk.cell (by simp) f5; have c0 := hk.cell (by simp) c0; have c1 := hk.cell (by simp) c1; have c2 := hk.cell (by simp) c2; have c3 := hk.cell (by simp) c3; have HM2 := Lib.hid (HM.out.keeps hk (by simp)); have hk := Lib.hid hk))
  go_quiet (fail)
  go_wp2_with fail
  go_quiet (fail)
  go_wp2_with fail
  go_quiet (fail)
  go_wp2_with fail
  go_ret
  exact ⟨rfl, by first | exact hk.out.trans (Keeps.of_drewN _ _) | exact (hk.out.drewN _).drewN _ | exact ((hk.out.drewN _).drewN _).drewN _ | exact (((hk.out.drewN _).drewN _).drewN _).drewN _⟩

set_option maxRecDepth 100000 in
set_option maxHeartbeats 4000000 in
theorem wrong80_yes (b m g cap k t : Nat) (r : Rcv) (fb : Nat) (f : Frm) (w : World) (h : RcvAt w b m g cap k t r) (hf : FrmAt w fb f) (h1 : f.fk = 1) (h2 : f.Right) (h3 : f.ses = (r.ses : Int)) (h4 : f.epo = (r.epo : Int)) (h5 : f.tot = (r.l.length : Int)) (h6 : ¬ f.tot ≤ f.idx) (h7 : ¬ 1000 < f.s.size) (h8 : hasL r.l f.idx = true) :
    Calls Try.prog 80 #[ptr b, ptr fb] w fun e w' => e = .returned (.int .i64 9) ∧ Keeps [] w w' := by
  have f0 := hf.f0
  have f1 := hf.f1
  have f2 := hf.f2
  have f3 := hf.f3
  have f4 := hf.f4
  have f5 := hf.f5
  have c0 := h.c0
  have c1 := h.c1
  have c2 := h.c2
  have c3 := h.c3
  have HM := Lib.hid h.map
  clear hf h
  obtain ⟨fk, ses, epo, idx, tot, s⟩ := f
  obtain ⟨rs, re, l, c, d⟩ := r
  dsimp only at *
  subst h1
  have HR := Lib.hid (show decide (Right 1 ses epo idx tot s) = true from decide_eq_true h2)
  clear h2
  subst h3
  subst h4
  subst h5
  have t6 : decide ((l.length : Int) ≤ idx) = false := decide_eq_false h6
  clear h6
  have t7 : decide ((1000 : Int) < (s.size : Int)) = false := decide_eq_false (by omega)
  clear h7
  have HQ := Lib.hid h8
  clear h8
  go_enter Try.func80, Try.ntmps80
  go_wp2_with (first | (go_at_call 98; refine (right98 1 _ _ _ _ _ _).mono ?_; rw [HR.out]; rintro e w' ⟨rfl, hk⟩; have f1 := hk.cell (by simp) f1; have f2 := hk.cell (by simp) f2; have f3 := hk.cell (by simp) f3; have f4 := hk.cell (by simp) f4; have f5 := hk.cell (by simp) f5; have c0 := hk.cell (by simp) c0; have c1 := hk.cell (by simp) c1; have c2 := hk.cell (by simp) c2; have c3 := hk.cell (by simp) c3; have HM2 := Lib.hid (HM.out.keeps hk (by simp)); have hk := Lib.hid hk))
  go_quiet (fail)
  go_wp2_with fail
  go_quiet (fail)
  go_wp2_with fail
  go_quiet (fail)
  go_wp2_with fail
  go_quiet ((go_at_call 14; exact quiet_same2 (has_lit _ _ _ _ _ (HM2.out.of_heap rfl) HQ.out)))
  go_wp2_with fail
  go_ret
  exact ⟨rfl, by first | exact hk.out.trans (Keeps.of_drewN _ _) | exact (hk.out.drewN _).drewN _ | exact ((hk.out.drewN _).drewN _).drewN _ | exact (((hk.out.drewN _).drewN _).drewN _).drewN _⟩

set_option maxRecDepth 100000 in
set_option maxHeartbeats 4000000 in
theorem wrong80_no (b m g cap k t : Nat) (r : Rcv) (fb : Nat) (f : Frm) (w : World) (h : RcvAt w b m g cap k t r) (hf : FrmAt w fb f) (h1 : f.fk = 1) (h2 : f.Right) (h3 : f.ses = (r.ses : Int)) (h4 : f.epo = (r.epo : Int)) (h5 : f.tot = (r.l.length : Int)) (h6 : ¬ f.tot ≤ f.idx) (h7 : ¬ 1000 < f.s.size) (h8 : hasL r.l f.idx = false) :
    Calls Try.prog 80 #[ptr b, ptr fb] w fun e w' => e = .returned (.int .i64 0) ∧ Keeps [] w w' := by
  have f0 := hf.f0
  have f1 := hf.f1
  have f2 := hf.f2
  have f3 := hf.f3
  have f4 := hf.f4
  have f5 := hf.f5
  have c0 := h.c0
  have c1 := h.c1
  have c2 := h.c2
  have c3 := h.c3
  have HM := Lib.hid h.map
  clear hf h
  obtain ⟨fk, ses, epo, idx, tot, s⟩ := f
  obtain ⟨rs, re, l, c, d⟩ := r
  dsimp only at *
  subst h1
  have HR := Lib.hid (show decide (Right 1 ses epo idx tot s) = true from decide_eq_true h2)
  clear h2
  subst h3
  subst h4
  subst h5
  have t6 : decide ((l.length : Int) ≤ idx) = false := decide_eq_false h6
  clear h6
  have t7 : decide ((1000 : Int) < (s.size : Int)) = false := decide_eq_false (by omega)
  clear h7
  have HQ := Lib.hid h8
  clear h8
  go_enter Try.func80, Try.ntmps80
  go_wp2_with (first | (go_at_call 98; refine (right98 1 _ _ _ _ _ _).mono ?_; rw [HR.out]; rintro e w' ⟨rfl, hk⟩; have f1 := hk.cell (by simp) f1; have f2 := hk.cell (by simp) f2; have f3 := hk.cell (by simp) f3; have f4 := hk.cell (by simp) f4; have f5 := hk.cell (by simp) f5; have c0 := hk.cell (by simp) c0; have c1 := hk.cell (by simp) c1; have c2 := hk.cell (by simp) c2; have c3 := hk.cell (by simp) c3; have HM2 := Lib.hid (HM.out.keeps hk (by simp)); have hk := Lib.hid hk))
  go_quiet (fail)
  go_wp2_with fail
  go_quiet (fail)
  go_wp2_with fail
  go_quiet (fail)
  go_wp2_with fail
  go_quiet ((go_at_call 14; exact quiet_same2 (has_lit _ _ _ _ _ (HM2.out.of_heap rfl) HQ.out)))
  go_wp2_with fail
  go_ret
  exact ⟨rfl, by first | exact hk.out.trans (Keeps.of_drewN _ _) | exact (hk.out.drewN _).drewN _ | exact ((hk.out.drewN _).drewN _).drewN _ | exact (((hk.out.drewN _).drewN _).drewN _).drewN _⟩

theorem wrong80 (b m g cap k t : Nat) (r : Rcv) (fb : Nat) (f : Frm) (w : World) (h : RcvAt w b m g cap k t r) (hf : FrmAt w fb f) :
    Calls Try.prog 80 #[ptr b, ptr fb] w fun e w' => e = .returned (.int .i64 (wrongE r f)) ∧ Keeps [] w w' := by
  unfold wrongE
  by_cases h1 : f.fk = 1
  · rw [if_neg (by simpa using h1)]
    by_cases h2 : f.Right
    · rw [if_neg (by simpa using h2)]
      by_cases h3 : f.ses = (r.ses : Int)
      · rw [if_neg (by simpa using h3)]
        by_cases h4 : f.epo = (r.epo : Int)
        · rw [if_neg (by simpa using h4)]
          by_cases h5 : f.tot = (r.l.length : Int)
          · rw [if_neg (by simpa using h5)]
            by_cases h6 : f.tot ≤ f.idx
            · rw [if_pos h6]; exact wrong80_idx b m g cap k t r fb f w h hf h1 h2 h3 h4 h5 h6
            · rw [if_neg h6]
              by_cases h7 : 1000 < f.s.size
              · rw [if_pos h7]; exact wrong80_big b m g cap k t r fb f w h hf h1 h2 h3 h4 h5 h6 h7
              · rw [if_neg h7]
                have hi : hasL r.l f.idx = at' r.l f.idx.toNat := by
                  have h0 : 0 ≤ f.idx := h2.2.2.2.1.1
                  unfold hasL; simp [h0]
                by_cases h8 : at' r.l f.idx.toNat = true
                · rw [if_pos h8]; exact wrong80_yes b m g cap k t r fb f w h hf h1 h2 h3 h4 h5 h6 h7 (hi.trans h8)
                · rw [if_neg h8]; exact wrong80_no b m g cap k t r fb f w h hf h1 h2 h3 h4 h5 h6 h7 (hi.trans (by simpa using h8))
          · rw [if_pos h5]; exact wrong80_tot b m g cap k t r fb f w h hf h1 h2 h3 h4 h5
        · rw [if_pos h4]; exact wrong80_epo b m g cap k t r fb f w h hf h1 h2 h3 h4
      · rw [if_pos h3]; exact wrong80_ses b m g cap k t r fb f w h hf h1 h2 h3
    · rw [if_pos h2]; exact wrong80_not b m g cap k t r fb f w h hf h1 h2
  · rw [if_pos h1]; exact wrong80_kind b m g cap k t r fb f w h hf h1
end Go.Proofs.Ytffcambjdlkfbaa
