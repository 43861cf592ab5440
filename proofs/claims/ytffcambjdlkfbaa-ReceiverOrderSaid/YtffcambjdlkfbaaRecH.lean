/- Contract of the reference receiver's Take (signpostref14). -/
import Derived.Test.YtffcambjdlkfbaaRecG
namespace Go.Proofs.Ytffcambjdlkfbaa
open Go.RowKit

theorem drop_le {d : List Int} {t E : Nat} (h1 : d.length = 20) (hE : E < 20) (h2 : ∀ i : Nat, 0 ≤ d.getD i 0 ∧ d.getD i 0 ≤ (t : Int)) (i : Nat) : 0 ≤ (d.set E (d.getD E 0 + 1)).getD i 0 ∧ (d.set E (d.getD E 0 + 1)).getD i 0 ≤ ((t + 1 : Nat) : Int) := by
  rw [getD_setI _ _ _ _ (by omega)]
  have := h2 E
  have := h2 i
  split <;> omega

section
variable {w : World} {b gi ci gc cc gd cd t : Nat} {r : Rcv} {d : List Int} {l : List Bool}
theorem NumsAt.obj (h : NumsAt w gd cd d) : ∃ cur, w.heap[gd]? = some (.cells cur 3 (0, 0)) := by
  rcases h.2 with ⟨h, _⟩ | ⟨g', cap', cur, hv, _, hg, _⟩
  · cases h
  · cases hv; exact ⟨cur, hg⟩
theorem BoolsAt.obj (h : BoolsAt w gd cd l) : ∃ cur, w.heap[gd]? = some (.cells cur 4 (0, 0)) := by
  rcases h.2 with ⟨h, _⟩ | ⟨g', cap', cur, hv, _, hg, _⟩
  · cases h
  · cases hv; exact ⟨cur, hg⟩
/-- The four blocks are four. -/
theorem RefAt.apart (h : RefAt w b gi ci gc cc gd cd t r) : b ≠ gi ∧ b ≠ gc ∧ b ≠ gd ∧ gi ≠ gc ∧ gi ≠ gd ∧ gc ≠ gd := by
  obtain ⟨cur1, h1⟩ := h.bools.obj
  obtain ⟨cur2, h2⟩ := h.txt.obj
  obtain ⟨cur3, h3⟩ := h.nums.obj
  have hb : w.heap[b]? = some _ := h.row
  refine ⟨ne_of_heap hb h1 ?_, ne_of_heap hb h2 ?_, ne_of_heap hb h3 ?_, ne_of_heap h1 h2 ?_, ne_of_heap h1 h3 ?_, ne_of_heap h2 h3 ?_⟩
  all_goals (intro e; injection e; try contradiction)
theorem RefAt.lt (h : RefAt w b gi ci gc cc gd cd t r) : b < w.heap.size ∧ gi < w.heap.size ∧ gc < w.heap.size ∧ gd < w.heap.size :=
  ⟨h.row.lt, h.bools.lt, h.txt.lt, h.nums.lt⟩
end

set_option maxRecDepth 100000 in
set_option maxHeartbeats 4000000 in
theorem take51_no (b gi ci gc cc gd cd t : Nat) (r : Rcv) (f : Frm) (E : Nat) (w : World) (h : RefAt w b gi ci gc cc gd cd t r) (hE : wrongE r f = E) (h0 : E ≠ 0) (ht : t ≤ 1000000) :
    Calls Try.prog 51 #[ptr b, f.val] w fun e w' => e = .returned (.int .i64 E) ∧ RefAt w' b gi ci gc cc gd cd (t + 1) (r.drop E) ∧ Keeps [gd] w w' := by
  have hr := wrongE_range r f
  have hE20 : E < 20 := by omega
  clear hr
  have HA := Lib.hid h.apart
  have ka := (Keeps.refl [] w).alloc (.cells #[.int .i64 f.fk, .int .i64 f.ses, .int .i64 f.epo, .int .i64 f.idx, .int .i64 f.tot, .string f.s] 54)
  have HW := Lib.hid (wrong81 b gi ci gc cc gd cd t r f (w.alloc (.cells #[.int .i64 f.fk, .int .i64 f.ses, .int .i64 f.epo, .int .i64 f.idx, .int .i64 f.tot, .string f.s] 54)) (h.quiet ka))
  have HKa := Lib.hid ka; clear ka
  have H := Lib.hid h; clear h
  have HE := Lib.hid hE; clear hE
  have t0 : ((E : Int) == 0) = false := by simp; omega
  have t0' : ((E : Int) != 0) = true := by simp; omega
  have e1 : (E : Int) < ((20 : Nat) : Int) := by omega
  unfold Frm.val at *
  go_enter Try.func51, Try.ntmps51
  go_wp2_with fail
  refine (HW.out).mono ?_
  rw [HE.out]
  rintro e w1 ⟨rfl, hk1⟩
  have k1 := HKa.out.trans hk1
  have h1 := H.out.quiet k1
  have c4 := h1.c4
  have cd0 := h1.nums.cell E (by rw [h1.dlen]; exact hE20)
  have fd0 := h1.nums.free E
  have hdE := h1.dle E
  have H1 := Lib.hid h1
  have K1 := Lib.hid k1
  clear hk1 h1 k1
  obtain ⟨x, hx⟩ : ∃ x, r.d.getD E 0 = x := ⟨_, rfl⟩
  rw [hx] at cd0 hdE
  have HX := Lib.hid hx; clear hx
  go_wp2_with fail
  go_ret
  obtain ⟨a1, a2, a3, a4, a5, a6⟩ := HA.out
  have kk := keeps_store1 w1 gd E (.int .i64 (x + 1))
  have hn := H1.out.nums.set E (x + 1)
  refine ⟨rfl, ⟨H1.out.row.keeps kk (by simpa using a3), H1.out.bools.keeps kk (by simpa using a5), H1.out.txt.keeps kk (by simpa using a6), H1.out.len, ?_, ?_, ?_⟩, (K1.out.mono (by simp)).trans kk⟩
  · rw [← HX.out] at hn ⊢; simpa [Rcv.drop] using hn
  · simpa [Rcv.drop] using H1.out.dlen
  · intro i
    have := drop_le H1.out.dlen hE20 H1.out.dle i
    simpa [Rcv.drop] using this

set_option maxRecDepth 100000 in
set_option maxHeartbeats 4000000 in
theorem take51_yes (b gi ci gc cc gd cd t : Nat) (r : Rcv) (f : Frm) (w : World) (h : RefAt w b gi ci gc cc gd cd t r) (hE : wrongE r f = 0) :
    Calls Try.prog 51 #[ptr b, f.val] w fun e w' => e = .returned (.int .i64 0) ∧ RefAt w' b gi ci gc cc gd cd (t + 1) (r.put f.idx.toNat f.s) ∧ Keeps [gi, gc] w w' := by
  have hi0 := (wrongE_zero hE).2.2.2.2.2.1
  have hil := (wrongE_zero hE).2.2.2.2.2.2.1
  have HA := Lib.hid h.apart
  have ka := (Keeps.refl [] w).alloc (.cells #[.int .i64 f.fk, .int .i64 f.ses, .int .i64 f.epo, .int .i64 f.idx, .int .i64 f.tot, .string f.s] 54)
  have HW := Lib.hid (wrong81 b gi ci gc cc gd cd t r f (w.alloc (.cells #[.int .i64 f.fk, .int .i64 f.ses, .int .i64 f.epo, .int .i64 f.idx, .int .i64 f.tot, .string f.s] 54)) (h.quiet ka))
  have HKa := Lib.hid ka; clear ka
  have HLt := Lib.hid h.lt
  have H := Lib.hid h; clear h
  have HE := Lib.hid hE; clear hE
  unfold Frm.val at *
  obtain ⟨i, hi⟩ := Int.eq_ofNat_of_zero_le hi0
  obtain ⟨fk, ses, epo, idx, tot, s⟩ := f
  dsimp only at *
  subst hi
  rw [Int.toNat_natCast] at *
  go_enter Try.func51, Try.ntmps51
  go_wp2_with fail
  refine (HW.out).mono ?_
  rw [HE.out]
  rintro e w1 ⟨rfl, hk1⟩
  have hf := frm_new w _ _ _ _ _ _ hk1
  have f3 := hf.f3
  have f5 := hf.f5
  clear hf
  have k1 := HKa.out.trans hk1
  have h1 := H.out.quiet k1
  have c2 := h1.c2
  have c3 := h1.c3
  have cb := h1.bools.cell i (by omega)
  have fb0 := h1.bools.free i
  have ct := h1.txt.cell i (by have := h1.len; omega)
  have ft0 := h1.txt.free i
  have H1 := Lib.hid h1
  have K1 := Lib.hid k1
  generalize hfb : w.heap.size = fb at *
  have HFb := Lib.hid hfb; clear hfb
  clear hk1 h1 k1
  go_wp2_with fail
  go_region
  all_goals
    obtain ⟨a1, a2, a3, a4, a5, a6⟩ := HA.out
    have HA := Lib.hid HA.out
    have k12 := keeps_store1 w1 gi i (.bool true)
    have c3 := k12.cell (by simpa using a1) c3
    have f3 := k12.cell (by have := HLt.out.2.1; simp; omega) f3
    have f5 := k12.cell (by have := HLt.out.2.1; simp; omega) f5
    have ht := H1.out.txt.keeps k12 (by simpa using a4.symm)
    have ct := ht.cell i (by have := H1.out.len; omega)
    have ft0 := ht.free i
    have HT := Lib.hid ht; clear ht
    have HK12 := Lib.hid k12; clear k12
    have hb2 := Lib.hid (H1.out.bools.set i true)
    generalize w1.setCell ⟨gi, i, none⟩ (.bool true) = w2 at *
    clear a1 a2 a3 a4 a5 a6
    go_wp2_with fail
    go_region
    all_goals
      go_wp2_with fail
      go_ret
      obtain ⟨a1, a2, a3, a4, a5, a6⟩ := HA.out
      have k23 : Keeps [gc] w2 ((w2.setCell ⟨gc, i, none⟩ (.string s)).drewN 2) := (keeps_store1 w2 gc i (.string s)).drewN 2
      have k13 := (HK12.out.mono (T := [gi, gc]) (by simp)).trans (k23.mono (by simp))
      have hrow := H1.out.row.keeps k13 (by simp [a1, a2])
      have el : (r.put i s).l.length = r.l.length := by simp [Rcv.put]
      refine ⟨rfl, ⟨by rw [el]; exact hrow, hb2.out.keeps k23 (by simpa using a4), HT.out.set i s, ?_, H1.out.nums.keeps k13 (by simp [a5.symm, a6.symm]), H1.out.dlen, fun j => ⟨(H1.out.dle j).1, Int.le_trans (H1.out.dle j).2 (by omega)⟩⟩, (K1.out.mono (by simp)).trans k13⟩
      simpa [Rcv.put] using H1.out.len

/-- Take. -/
theorem take51 (b gi ci gc cc gd cd t : Nat) (r : Rcv) (f : Frm) (w : World) (h : RefAt w b gi ci gc cc gd cd t r) (ht : t ≤ 1000000) (E : Int) (R : Rcv) (hE : wrongE r f = E) (hR : r.take f = R) :
    Calls Try.prog 51 #[ptr b, f.val] w fun e w' => e = .returned (.int .i64 E) ∧ RefAt w' b gi ci gc cc gd cd (t + 1) R ∧ Keeps [gi, gc, gd] w w' := by
  subst hR
  unfold Rcv.take
  have hr := wrongE_range r f
  by_cases h0 : wrongE r f = 0
  · rw [if_pos h0]
    obtain rfl : E = 0 := by omega
    exact (take51_yes b gi ci gc cc gd cd t r f w h h0).mono fun e w' ⟨h1, h2, h3⟩ => ⟨h1, h2, h3.mono (by simp)⟩
  · rw [if_neg h0, hE]
    obtain ⟨n, rfl⟩ : ∃ n : Nat, E = n := ⟨E.toNat, by omega⟩
    exact (take51_no b gi ci gc cc gd cd t r f n w h hE (by omega) ht).mono fun e w' ⟨h1, h2, h3⟩ => ⟨h1, h2, h3.mono (by simp)⟩
end Go.Proofs.Ytffcambjdlkfbaa
