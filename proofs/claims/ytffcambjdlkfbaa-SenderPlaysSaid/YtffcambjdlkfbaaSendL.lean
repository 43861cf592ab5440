/- The reference of layer 13 (signpostref13): Ack. -/
import Derived.Test.YtffcambjdlkfbaaSendK
namespace Go.Proofs.Ytffcambjdlkfbaa
open Go.RowKit

/-- What Ack leaves: the bools lie in a new slice where it took the answer. -/
def RAckPost (ρ : RBlk) (σ : Snd) (kind ses epo idx tot : Int) (s : ByteArray) (w : World) (e : Ending) (w' : World) : Prop :=
  e = .returned (.int .i64 (ackErr σ kind ses epo idx tot)) ∧ ∃ gi ci, RSndAt w' { ρ with gi := gi, ci := ci } (ackS σ kind ses epo idx tot s) ∧ (gi = ρ.gi ∨ w.heap.size ≤ gi) ∧ Keeps [ρ.b] w w'

theorem RBlk.nd {ρ : RBlk} (h : ρ.all.Nodup) : (ρ.b ≠ ρ.gi ∧ ρ.b ≠ ρ.gt ∧ ρ.b ≠ ρ.ga ∧ ρ.b ≠ ρ.gx) ∧ (ρ.gi ≠ ρ.gt ∧ ρ.gi ≠ ρ.ga ∧ ρ.gi ≠ ρ.gx) ∧ (ρ.gt ≠ ρ.ga ∧ ρ.gt ≠ ρ.gx) ∧ ρ.ga ≠ ρ.gx := by
  unfold RBlk.all at h
  simp only [List.nodup_cons, List.mem_cons, List.not_mem_nil, not_or, or_false] at h
  exact ⟨h.1, h.2.1, h.2.2.1, h.2.2.2.1⟩

/-- The bools of a new slice are set into the field. -/
theorem RSndAt.setIn {w w' : World} {ρ : RBlk} {σ : Snd} (h : RSndAt w ρ σ) (hnd : ρ.all.Nodup) (k : Keeps [] w w') {g2 cap2 : Nat} {l2 : List Bool} (hm : BoolsAt w' g2 cap2 l2) (hg : w.heap.size ≤ g2) :
    RSndAt (w'.setCell ⟨ρ.b, 3, none⟩ (bslice g2 cap2 l2)) { ρ with gi := g2, ci := cap2 } { σ with l := l2 } ∧ Keeps [ρ.b] w (w'.setCell ⟨ρ.b, 3, none⟩ (bslice g2 cap2 l2)) := by
  obtain ⟨⟨n1, n2, n3, n4⟩, _⟩ := RBlk.nd hnd
  have hlt := h.row.lt
  have ks := keeps_store w' ρ.b 3 (bslice g2 cap2 l2)
  have h2 := h.quiet k
  exact ⟨⟨h2.row.set 3 _, hm.keeps ks (by simp; omega), h2.strs.keeps ks (by simpa using Ne.symm n4), h2.tr.keeps ks (by simpa using Ne.symm n2), h2.at_.keeps ks (by simpa using Ne.symm n3), h.cap⟩, (k.mono (by simp)).trans ks⟩

set_option maxRecDepth 100000 in
set_option maxHeartbeats 4000000 in
theorem rack_ok (ρ : RBlk) (σ : Snd) (kind ses epo idx tot : Int) (s : ByteArray) (w : World) (h : RSndAt w ρ σ) (ho : σ.Ok) (hnd : ρ.all.Nodup) (hs : s.size ≤ 1000) (a1 : kind = 2) (a2 : ses = σ.ses) (a3 : epo = σ.epo) (a4 : ¬ (tot ≠ σ.c.length ∨ idx < 0 ∨ tot < idx)) :
    Calls Try.prog 35 #[ptr ρ.b, .agg #[.int .i64 kind, .int .i64 ses, .int .i64 epo, .int .i64 idx, .int .i64 tot, .string s]] w (RAckPost ρ σ kind ses epo idx tot s w) := by
  have c0 := h.c0
  have c1 := h.c1
  have c2 := h.c2
  have hl1 : 1 ≤ σ.l.length := by rw [ho.ll]; exact ho.n1
  have hl2 : σ.l.length ≤ 1000 := by have := ho.n2; rw [ho.ll]; omega
  have HS := Lib.hid h
  have hn2 := ho.n2
  have hn1 := ho.n1
  have HO := Lib.hid hnd
  have hbl : ρ.b < w.heap.size := h.row.lt
  clear ho h hnd
  have KA : ∀ o, Keeps [] w (w.alloc o) := fun o => (Keeps.refl [] w).alloc o
  have HKA := Lib.hid KA; clear KA
  have t1 : (kind == 2) = true := by simpa using a1
  have t2 : (ses == σ.ses) = true := by simpa using a2
  have t3 : (epo == σ.epo) = true := by simpa using a3
  have HE := Lib.hid (show ackErr σ kind ses epo idx tot = 0 from by unfold ackErr; rw [if_neg (by simpa using a1), if_neg (by simpa using a2), if_neg (by simpa using a3), if_neg a4])
  have t4 : (tot == (σ.c.length : Int)) = true := by simp; omega
  have t4b : (tot != (σ.c.length : Int)) = false := by simp [bne, t4]
  have t5 : 0 ≤ idx := by omega
  have t5b : decide (idx < 0) = false := by simpa using t5
  have t6 : idx ≤ tot := by omega
  have t6b : decide (tot < idx) = false := by simpa using t6
  clear a1 a2 a3 a4
  go_enter Try.func35, Try.ntmps35
  go_wp2_with fail
  go_quiet (fail)
  go_wp2_with fail
  go_quiet (fail)
  simp only [World.drewN_drewN]
  go_wp2_with fail
  go_quiet (fail)
  simp only [World.drewN_drewN]
  go_wp2_with fail
  have hka := HKA.out (.cells #[.int .i64 kind, .int .i64 ses, .int .i64 epo, .int .i64 idx, .int .i64 tot, .string s] 54)
  have ra := RowAt.new w 54 [.int .i64 kind, .int .i64 ses, .int .i64 epo, .int .i64 idx, .int .i64 tot, .string s]
  have HKn := Lib.hid (show ∀ n, Keeps [] w ((w.alloc (.cells #[.int .i64 kind, .int .i64 ses, .int .i64 epo, .int .i64 idx, .int .i64 tot, .string s] 54)).drewN n) ∧ ((w.alloc (.cells #[.int .i64 kind, .int .i64 ses, .int .i64 epo, .int .i64 idx, .int .i64 tot, .string s] 54)).drewN n).drew.cell? ⟨w.heap.size, 3, none⟩ = some (.int .i64 idx) ∧ ((w.alloc (.cells #[.int .i64 kind, .int .i64 ses, .int .i64 epo, .int .i64 idx, .int .i64 tot, .string s] 54)).drewN n).drew.cell? ⟨w.heap.size, 5, none⟩ = some (.string s) from fun n => ⟨hka.trans (Keeps.of_drewN _ _), ra.cell 3, ra.cell 5⟩)
  have hbn : ρ.b ≠ w.heap.size := by omega
  clear ra hka
  generalize hw1 : (w.alloc (.cells #[.int .i64 kind, .int .i64 ses, .int .i64 epo, .int .i64 idx, .int .i64 tot, .string s] 54)).drewN _ = w1
  have hkw : Keeps [] w w1 ∧ w1.drew.cell? ⟨w.heap.size, 3, none⟩ = some (.int .i64 idx) ∧ w1.drew.cell? ⟨w.heap.size, 5, none⟩ = some (.string s) := by rw [← hw1]; exact HKn.out _
  obtain ⟨hk1, g3, g5⟩ := hkw
  clear hw1 HKn
  have c3 : w1.drew.cell? ⟨ρ.b, 3, none⟩ = some (bslice ρ.gi ρ.ci σ.l) := (hk1.drew).cell (by simp) HS.out.c3
  have HK1 := Lib.hid (hk1.drew)
  have HM1 := Lib.hid (HS.out.bools.keeps hk1.drew (by simp))
  clear hk1
  go_region_with (first
      | (go_at_call 12; refine (rmerge_any ρ.gi ρ.ci σ.l idx s _ HM1.out hl1 hl2 hs).mono ?_; rintro e w' ⟨g2, cap2, rfl, hm, hg2, hk⟩; have ff := (HS.out.row.keeps (HK1.out.trans hk) (by simp)).free 3; have c3b := hk.cell (by simp) c3; have hm := Lib.hid hm; have hk := Lib.hid hk; have hg2 := Lib.hid hg2))
  all_goals
    go_wp2_with fail
    go_ret
    obtain ⟨hR, hKR⟩ := HS.out.setIn HO.out (HK1.out.trans hk.out) hm.out (Nat.le_trans HK1.out.size hg2.out)
    exact ⟨ret_int HE.out.symm, g2, cap2, by unfold ackS; rw [if_pos HE.out]; exact hR, .inr (Nat.le_trans HK1.out.size hg2.out), hKR⟩

set_option maxRecDepth 100000 in
set_option maxHeartbeats 4000000 in
theorem rack_any (ρ : RBlk) (σ : Snd) (kind ses epo idx tot : Int) (s : ByteArray) (w : World) (h : RSndAt w ρ σ) (ho : σ.Ok) (hnd : ρ.all.Nodup) (hs : s.size ≤ 1000) :
    Calls Try.prog 35 #[ptr ρ.b, .agg #[.int .i64 kind, .int .i64 ses, .int .i64 epo, .int .i64 idx, .int .i64 tot, .string s]] w (RAckPost ρ σ kind ses epo idx tot s w) := by
  have c0 := h.c0
  have c1 := h.c1
  have c2 := h.c2
  have HS := Lib.hid h
  have hn2 := ho.n2
  have hn1 := ho.n1
  have HO := Lib.hid hnd
  have hbl : ρ.b < w.heap.size := h.row.lt
  have HOk := Lib.hid ho
  clear ho h hnd
  have KA : ∀ o, Keeps [] w (w.alloc o) := fun o => (Keeps.refl [] w).alloc o
  have HKA := Lib.hid KA; clear KA
  by_cases a1 : kind = 2
  · have t1 : (kind == 2) = true := by simpa using a1
    by_cases a2 : ses = σ.ses
    · have t2 : (ses == σ.ses) = true := by simpa using a2
      by_cases a3 : epo = σ.epo
      · have t3 : (epo == σ.epo) = true := by simpa using a3
        by_cases a4 : tot ≠ σ.c.length ∨ idx < 0 ∨ tot < idx
        · have HE := Lib.hid (show ackErr σ kind ses epo idx tot = 14 from by unfold ackErr; rw [if_neg (by simpa using a1), if_neg (by simpa using a2), if_neg (by simpa using a3), if_pos a4])
          clear a1 a2 a3
          rcases a4 with a4 | a4
          · have t4 : (tot == (σ.c.length : Int)) = false := by simpa using a4
            have t4b : (tot != (σ.c.length : Int)) = true := by simp [bne, t4]
            clear a4
            go_enter Try.func35, Try.ntmps35
            go_wp2_with fail
            go_quiet (fail)
            go_wp2_with fail
            go_quiet (fail)
            simp only [World.drewN_drewN]
            go_wp2_with fail
            go_quiet (fail)
            simp only [World.drewN_drewN]
            go_wp2_with fail
            go_ret
            exact ⟨ret_int HE.out.symm, ρ.gi, ρ.ci, by unfold ackS; rw [HE.out]; exact HS.out.quiet ((HKA.out _).trans (Keeps.of_drewN _ _)), .inl rfl, ((HKA.out _).trans (Keeps.of_drewN _ _)).mono (by simp)⟩
          · by_cases t4 : tot = σ.c.length
            · have t4 : (tot == (σ.c.length : Int)) = true := by simpa using t4
              have t4b : (tot != (σ.c.length : Int)) = false := by simp [bne, t4]
              rcases Int.lt_or_le idx 0 with t5 | t5
              · have t5b : decide (idx < 0) = true := by simpa using t5
                clear a4
                go_enter Try.func35, Try.ntmps35
                go_wp2_with fail
                go_quiet (fail)
                go_wp2_with fail
                go_quiet (fail)
                simp only [World.drewN_drewN]
                go_wp2_with fail
                go_quiet (fail)
                simp only [World.drewN_drewN]
                go_wp2_with fail
                go_ret
                exact ⟨ret_int HE.out.symm, ρ.gi, ρ.ci, by unfold ackS; rw [HE.out]; exact HS.out.quiet ((HKA.out _).trans (Keeps.of_drewN _ _)), .inl rfl, ((HKA.out _).trans (Keeps.of_drewN _ _)).mono (by simp)⟩
              · have t6 : tot < idx := by omega
                have t5b : decide (idx < 0) = false := by simpa using t5
                have t6b : decide (tot < idx) = true := by simpa using t6
                clear a4
                go_enter Try.func35, Try.ntmps35
                go_wp2_with fail
                go_quiet (fail)
                go_wp2_with fail
                go_quiet (fail)
                simp only [World.drewN_drewN]
                go_wp2_with fail
                go_quiet (fail)
                simp only [World.drewN_drewN]
                go_wp2_with fail
                go_ret
                exact ⟨ret_int HE.out.symm, ρ.gi, ρ.ci, by unfold ackS; rw [HE.out]; exact HS.out.quiet ((HKA.out _).trans (Keeps.of_drewN _ _)), .inl rfl, ((HKA.out _).trans (Keeps.of_drewN _ _)).mono (by simp)⟩
            · have t4 : (tot == (σ.c.length : Int)) = false := by simpa using t4
              have t4b : (tot != (σ.c.length : Int)) = true := by simp [bne, t4]
              clear a4
              go_enter Try.func35, Try.ntmps35
              go_wp2_with fail
              go_quiet (fail)
              go_wp2_with fail
              go_quiet (fail)
              simp only [World.drewN_drewN]
              go_wp2_with fail
              go_quiet (fail)
              simp only [World.drewN_drewN]
              go_wp2_with fail
              go_ret
              exact ⟨ret_int HE.out.symm, ρ.gi, ρ.ci, by unfold ackS; rw [HE.out]; exact HS.out.quiet ((HKA.out _).trans (Keeps.of_drewN _ _)), .inl rfl, ((HKA.out _).trans (Keeps.of_drewN _ _)).mono (by simp)⟩
        · exact rack_ok ρ σ kind ses epo idx tot s w HS.out HOk.out HO.out hs a1 a2 a3 a4
      · have t3 : (epo == σ.epo) = false := by simpa using a3
        have HE := Lib.hid (show ackErr σ kind ses epo idx tot = 13 from by unfold ackErr; rw [if_neg (by simpa using a1), if_neg (by simpa using a2), if_pos a3])
        clear a1 a2 a3
        go_enter Try.func35, Try.ntmps35
        go_wp2_with fail
        go_quiet (fail)
        go_wp2_with fail
        go_quiet (fail)
        simp only [World.drewN_drewN]
        go_wp2_with fail
        go_ret
        exact ⟨ret_int HE.out.symm, ρ.gi, ρ.ci, by unfold ackS; rw [HE.out]; exact HS.out.quiet ((HKA.out _).trans (Keeps.of_drewN _ _)), .inl rfl, ((HKA.out _).trans (Keeps.of_drewN _ _)).mono (by simp)⟩
    · have t2 : (ses == σ.ses) = false := by simpa using a2
      have HE := Lib.hid (show ackErr σ kind ses epo idx tot = 12 from by unfold ackErr; rw [if_neg (by simpa using a1), if_pos a2])
      clear a1 a2
      go_enter Try.func35, Try.ntmps35
      go_wp2_with fail
      go_quiet (fail)
      go_wp2_with fail
      go_ret
      exact ⟨ret_int HE.out.symm, ρ.gi, ρ.ci, by unfold ackS; rw [HE.out]; exact HS.out.quiet ((HKA.out _).trans (Keeps.of_drewN _ _)), .inl rfl, ((HKA.out _).trans (Keeps.of_drewN _ _)).mono (by simp)⟩
  · have HE := Lib.hid (show ackErr σ kind ses epo idx tot = 1 from by unfold ackErr; rw [if_pos a1])
    have t1 : (kind == 2) = false := by simpa using a1
    clear a1
    go_enter Try.func35, Try.ntmps35
    go_wp2_with fail
    go_ret
    exact ⟨ret_int HE.out.symm, ρ.gi, ρ.ci, by unfold ackS; rw [HE.out]; exact HS.out.quiet (HKA.out _), .inl rfl, (HKA.out _).mono (by simp)⟩
end Go.Proofs.Ytffcambjdlkfbaa
