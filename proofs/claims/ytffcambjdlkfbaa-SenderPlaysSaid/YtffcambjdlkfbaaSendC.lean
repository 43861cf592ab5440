/- Contracts of the sender (package sender): Err, Done, There, Tries, Ack, over any sender in memory. -/
import Derived.Test.YtffcambjdlkfbaaSendB
namespace Go.Proofs.Ytffcambjdlkfbaa
open Go.RowKit

/-- The blocks of a sender, and its slices' capacities. -/
structure SBlk where
  b : Nat
  bm : Nat
  gc : Nat
  gt : Nat
  ga : Nat
  cc : Nat
  ct : Nat
  ca : Nat

abbrev sl (g n cap : Nat) : Value := .slice (some ⟨g, 0, none⟩) n cap

structure SndAt (w : World) (β : SBlk) (σ : Snd) : Prop where
  row : RowAt w β.b 104 [ptr β.bm, .int .i64 σ.ses, .int .i64 σ.epo, sl β.gc σ.c.length β.cc, sl β.gt σ.c.length β.ct, sl β.ga σ.c.length β.ca, .int .i64 σ.now, .bool σ.lost]
  map : MapAt w β.bm σ.l
  strs : StrsAt w β.gc 0 σ.c
  tr : IntsAt w β.gt β.ct σ.tr
  at_ : IntsAt w β.ga β.ca σ.at_
  cap : σ.c.length ≤ β.cc ∧ β.cc ≤ 9223372036854775807

def SBlk.all (β : SBlk) : List Nat := [β.b, β.bm, β.gc, β.gt, β.ga]
def SBlk.foot (β : SBlk) : List Nat := [β.b, β.bm, β.gt, β.ga]

theorem SndAt.keeps {w w' : World} {β : SBlk} {σ : Snd} {S : List Nat} (h : SndAt w β σ) (k : Keeps S w w') (hs : ∀ x ∈ β.all, x ∉ S) : SndAt w' β σ := by
  unfold SBlk.all at hs
  exact ⟨h.row.keeps k (hs _ (by simp)), h.map.keeps k (hs _ (by simp)), h.strs.keeps k (hs _ (by simp)), h.tr.keeps k (hs _ (by simp)), h.at_.keeps k (hs _ (by simp)), h.cap⟩
theorem SndAt.quiet {w w' : World} {β : SBlk} {σ : Snd} (h : SndAt w β σ) (k : Keeps [] w w') : SndAt w' β σ := h.keeps k (by simp)

section
variable {w : World} {β : SBlk} {σ : Snd} (h : SndAt w β σ)
include h
theorem SndAt.c0 : w.cell? ⟨β.b, 0, none⟩ = some (ptr β.bm) := by rw [h.row.cell]; rfl
theorem SndAt.c1 : w.cell? ⟨β.b, 1, none⟩ = some (.int .i64 σ.ses) := by rw [h.row.cell]; rfl
theorem SndAt.c2 : w.cell? ⟨β.b, 2, none⟩ = some (.int .i64 σ.epo) := by rw [h.row.cell]; rfl
theorem SndAt.c3 : w.cell? ⟨β.b, 3, none⟩ = some (sl β.gc σ.c.length β.cc) := by rw [h.row.cell]; rfl
theorem SndAt.c4 : w.cell? ⟨β.b, 4, none⟩ = some (sl β.gt σ.c.length β.ct) := by rw [h.row.cell]; rfl
theorem SndAt.c5 : w.cell? ⟨β.b, 5, none⟩ = some (sl β.ga σ.c.length β.ca) := by rw [h.row.cell]; rfl
theorem SndAt.c6 : w.cell? ⟨β.b, 6, none⟩ = some (.int .i64 σ.now) := by rw [h.row.cell]; rfl
theorem SndAt.c7 : w.cell? ⟨β.b, 7, none⟩ = some (.bool σ.lost) := by rw [h.row.cell]; rfl
end

def errOf (σ : Snd) : Int := if σ.lost = true then 16 else if baseL σ.l = σ.l.length then 15 else 0

theorem sErr_any (β : SBlk) (σ : Snd) (w : World) (h : SndAt w β σ) : Calls Try.prog 36 #[ptr β.b] w fun e w' => e = .returned (.int .i64 (errOf σ)) ∧ Keeps [] w w' := by
  have c0 := h.c0
  have c7 := h.c7
  have hm := h.map
  have HM := Lib.hid hm; clear hm h
  unfold errOf
  cases hl : σ.lost with
  | true =>
    rw [hl] at c7
    clear hl
    go_enter Try.func36, Try.ntmps36
    go_wp2_with fail
    go_ret
    exact ⟨rfl, Keeps.refl _ _⟩
  | false =>
    rw [hl] at c7
    clear hl
    by_cases hf : baseL σ.l = σ.l.length
    · rw [if_pos hf]
      have HF := Lib.hid (show (baseL σ.l == σ.l.length) = true from by simpa using hf)
      clear hf
      go_enter Try.func36, Try.ntmps36
      go_wp2_with fail
      refine (full_lit β.bm σ.l true _ HM.out HF.out).mono ?_
      rintro e w' ⟨rfl, hk⟩
      have hk := Lib.hid hk
      go_wp2_with fail
      go_ret
      exact ⟨rfl, hk.out⟩
    · rw [if_neg hf]
      have HF := Lib.hid (show (baseL σ.l == σ.l.length) = false from by simpa using hf)
      clear hf
      go_enter Try.func36, Try.ntmps36
      go_wp2_with fail
      refine (full_lit β.bm σ.l false _ HM.out HF.out).mono ?_
      rintro e w' ⟨rfl, hk⟩
      have hk := Lib.hid hk
      go_wp2_with fail
      go_ret
      exact ⟨rfl, hk.out⟩

theorem sDone_any (β : SBlk) (σ : Snd) (w : World) (h : SndAt w β σ) : Calls Try.prog 38 #[ptr β.b] w fun e w' => e = .returned (.bool (baseL σ.l == σ.l.length)) ∧ Keeps [] w w' := by
  have c0 := h.c0
  have HM := Lib.hid h.map; clear h
  generalize hq : (baseL σ.l == σ.l.length) = q
  have HQ := Lib.hid hq; clear hq
  go_enter Try.func38, Try.ntmps38
  go_wp2_with fail
  refine (full_lit β.bm σ.l q _ HM.out HQ.out).mono ?_
  rintro e w' ⟨rfl, hk⟩
  have hk := Lib.hid hk
  go_wp2_with fail
  go_ret
  exact ⟨rfl, hk.out⟩

theorem sThere_any (β : SBlk) (σ : Snd) (w : World) (h : SndAt w β σ) : Calls Try.prog 39 #[ptr β.b] w (CopyPost σ.l w) := by
  have c0 := h.c0
  have HM := Lib.hid h.map; clear h
  go_enter Try.func39, Try.ntmps39
  go_wp2_with fail
  refine (copy_any β.bm σ.l _ HM.out).mono ?_
  rintro e w' ⟨rfl, hm, hk, hs⟩
  have hk := Lib.hid hk
  have hm := Lib.hid hm
  have hs := Lib.hid hs
  go_wp2_with fail
  go_ret
  exact ⟨rfl, hm.out, hk.out, hs.out⟩

theorem sTries_any (β : SBlk) (σ : Snd) (i : Nat) (w : World) (h : SndAt w β σ) (ho : σ.Ok) (hi : i < σ.c.length) :
    Calls Try.prog 40 #[ptr β.b, .int .i64 i] w fun e w' => e = .returned (.int .i64 (σ.tr.getD i 0)) ∧ w = w' := by
  have c4 := h.c4
  have hc := h.tr.cell i (by rw [ho.lt]; exact hi)
  have hn2 := ho.n2
  clear h ho
  generalize σ.tr.getD i 0 = x at *
  go_enter Try.func40, Try.ntmps40
  go_wp2_with fail
  go_ret
  exact ⟨rfl, rfl⟩

theorem keeps_map_snd {w w' : World} {β : SBlk} {σ : Snd} (h : SndAt w β σ) (k : Keeps [β.bm] w w') (hnd : β.all.Nodup) (l : List Bool) (hm : MapAt w' β.bm l) : SndAt w' β { σ with l := l } := by
  unfold SBlk.all at hnd
  simp only [List.nodup_cons, List.mem_cons, List.not_mem_nil, not_or, or_false] at hnd
  obtain ⟨⟨h1, h2, h3, h4⟩, ⟨h5, h6, h7⟩, ⟨h8, h9⟩, h10, _⟩ := hnd
  exact ⟨h.row.keeps k (by simpa using h1), hm, h.strs.keeps k (by simpa using Ne.symm h5), h.tr.keeps k (by simpa using Ne.symm h6), h.at_.keeps k (by simpa using Ne.symm h7), h.cap⟩

/-- What Ack leaves. -/
def AckPost (β : SBlk) (σ : Snd) (kind ses epo idx tot : Int) (s : ByteArray) (w : World) (e : Ending) (w' : World) : Prop :=
  e = .returned (.int .i64 (ackErr σ kind ses epo idx tot)) ∧ SndAt w' β (ackS σ kind ses epo idx tot s) ∧ Keeps [β.bm] w w'

set_option maxRecDepth 100000 in
theorem sAck_any (β : SBlk) (σ : Snd) (kind ses epo idx tot : Int) (s : ByteArray) (w : World) (h : SndAt w β σ) (ho : σ.Ok) (hnd : β.all.Nodup) (hs : s.size ≤ 1000) :
    Calls Try.prog 34 #[ptr β.b, .agg #[.int .i64 kind, .int .i64 ses, .int .i64 epo, .int .i64 idx, .int .i64 tot, .string s]] w (AckPost β σ kind ses epo idx tot s w) := by
  have c0 := h.c0
  have c1 := h.c1
  have c2 := h.c2
  have c3 := h.c3
  have HS := Lib.hid h
  have hn2 := ho.n2
  have hn1 := ho.n1
  have HO := Lib.hid hnd
  have hbl : β.b < w.heap.size := h.row.lt
  clear ho h hnd
  have KA : ∀ o, Keeps [] w (w.alloc o) := fun o => (Keeps.refl [] w).alloc o
  have HKA := Lib.hid KA; clear KA
  by_cases a1 : kind = 2
  · have t1 : (kind == 2) = true := by simpa using a1
    by_cases a2 : ses = σ.ses
    · have t2 : (ses == σ.ses) = true := by simpa using a2
      by_cases a3 : epo = σ.epo
      · have t3 : (epo == σ.epo) = true := by simpa using a3
        by_cases a4 : tot ≠ σ.c.length ∨ idx < 0 ∨ tot < idx
        · have HE := Lib.hid (show ackErr σ kind ses epo idx tot = 14 from by unfold ackErr; rw [if_neg (by simpa using a1), if_neg (by simpa using a2), if_neg (by simpa using a3), if_pos a4])
          clear a1 a2 a3
          rcases a4 with a4 | a4
          · have t4 : (tot == (σ.c.length : Int)) = false := by simpa using a4
            have t4b : (tot != (σ.c.length : Int)) = true := by simp [bne, t4]
            clear a4
            go_enter Try.func34, Try.ntmps34
            go_wp2_with fail
            go_quiet (fail)
            go_wp2_with fail
            go_quiet (fail)
            simp only [World.drewN_drewN]
            go_wp2_with fail
            go_quiet (fail)
            simp only [World.drewN_drewN]
            go_wp2_with fail
            go_ret
            exact ⟨ret_int HE.out.symm, by unfold ackS; rw [HE.out]; exact HS.out.quiet ((HKA.out _).trans (Keeps.of_drewN _ _)), ((HKA.out _).trans (Keeps.of_drewN _ _)).mono (by simp)⟩
          · by_cases t4 : tot = σ.c.length
            · have t4 : (tot == (σ.c.length : Int)) = true := by simpa using t4
              have t4b : (tot != (σ.c.length : Int)) = false := by simp [bne, t4]
              rcases Int.lt_or_le idx 0 with t5 | t5
              · have t5b : decide (idx < 0) = true := by simpa using t5
                clear a4
                go_enter Try.func34, Try.ntmps34
                go_wp2_with fail
                go_quiet (fail)
                go_wp2_with fail
                go_quiet (fail)
                simp only [World.drewN_drewN]
                go_wp2_with fail
                go_quiet (fail)
                simp only [World.drewN_drewN]
                go_wp2_with fail
                go_ret
                exact ⟨ret_int HE.out.symm, by unfold ackS; rw [HE.out]; exact HS.out.quiet ((HKA.out _).trans (Keeps.of_drewN _ _)), ((HKA.out _).trans (Keeps.of_drewN _ _)).mono (by simp)⟩
              · have t6 : tot < idx := by omega
                have t5b : decide (idx < 0) = false := by simpa using t5
                have t6b : decide (tot < idx) = true := by simpa using t6
                clear a4
                go_enter Try.func34, Try.ntmps34
                go_wp2_with fail
                go_quiet (fail)
                go_wp2_with fail
                go_quiet (fail)
                simp only [World.drewN_drewN]
                go_wp2_with fail
                go_quiet (fail)
                simp only [World.drewN_drewN]
                go_wp2_with fail
                go_ret
                exact ⟨ret_int HE.out.symm, by unfold ackS; rw [HE.out]; exact HS.out.quiet ((HKA.out _).trans (Keeps.of_drewN _ _)), ((HKA.out _).trans (Keeps.of_drewN _ _)).mono (by simp)⟩
            · have t4 : (tot == (σ.c.length : Int)) = false := by simpa using t4
              have t4b : (tot != (σ.c.length : Int)) = true := by simp [bne, t4]
              clear a4
              go_enter Try.func34, Try.ntmps34
              go_wp2_with fail
              go_quiet (fail)
              go_wp2_with fail
              go_quiet (fail)
              simp only [World.drewN_drewN]
              go_wp2_with fail
              go_quiet (fail)
              simp only [World.drewN_drewN]
              go_wp2_with fail
              go_ret
              exact ⟨ret_int HE.out.symm, by unfold ackS; rw [HE.out]; exact HS.out.quiet ((HKA.out _).trans (Keeps.of_drewN _ _)), ((HKA.out _).trans (Keeps.of_drewN _ _)).mono (by simp)⟩
        · have HE := Lib.hid (show ackErr σ kind ses epo idx tot = 0 from by unfold ackErr; rw [if_neg (by simpa using a1), if_neg (by simpa using a2), if_neg (by simpa using a3), if_neg a4])
          have t4 : (tot == (σ.c.length : Int)) = true := by simp; omega
          have t4b : (tot != (σ.c.length : Int)) = false := by simp [bne, t4]
          have t5 : 0 ≤ idx := by omega
          have t5b : decide (idx < 0) = false := by simpa using t5
          have t6 : idx ≤ tot := by omega
          have t6b : decide (tot < idx) = false := by simpa using t6
          clear a1 a2 a3 a4
          go_enter Try.func34, Try.ntmps34
          go_wp2_with fail
          go_quiet (fail)
          go_wp2_with fail
          go_quiet (fail)
          simp only [World.drewN_drewN]
          go_wp2_with fail
          go_quiet (fail)
          simp only [World.drewN_drewN]
          go_wp2_with fail
          have hka := HKA.out (.cells #[.int .i64 kind, .int .i64 ses, .int .i64 epo, .int .i64 idx, .int .i64 tot, .string s] 54)
          have ra := RowAt.new w 54 [.int .i64 kind, .int .i64 ses, .int .i64 epo, .int .i64 idx, .int .i64 tot, .string s]
          have hf : ∀ n, ((w.alloc (.cells #[.int .i64 kind, .int .i64 ses, .int .i64 epo, .int .i64 idx, .int .i64 tot, .string s] 54)).drewN n).drew.cell? ⟨β.b, 0, none⟩ = some (ptr β.bm) ∧
              ((w.alloc (.cells #[.int .i64 kind, .int .i64 ses, .int .i64 epo, .int .i64 idx, .int .i64 tot, .string s] 54)).drewN n).drew.cell? ⟨w.heap.size, 3, none⟩ = some (.int .i64 idx) ∧
              ((w.alloc (.cells #[.int .i64 kind, .int .i64 ses, .int .i64 epo, .int .i64 idx, .int .i64 tot, .string s] 54)).drewN n).drew.cell? ⟨w.heap.size, 5, none⟩ = some (.string s) :=
            fun _ => ⟨hka.cell (by simp) c0, ra.cell 3, ra.cell 5⟩
          have HF := Lib.hid hf; clear hf
          have hbn : β.bm ≠ β.b ∧ β.bm ≠ w.heap.size := by
            have h2 := HO.out
            unfold SBlk.all at h2
            simp only [List.nodup_cons, List.mem_cons, not_or] at h2
            exact ⟨Ne.symm h2.1.1, Nat.ne_of_lt HS.out.map.lt⟩
          have HBN := Lib.hid hbn; clear hbn
          have HKn := Lib.hid (show ∀ n, Keeps [] w ((w.alloc (.cells #[.int .i64 kind, .int .i64 ses, .int .i64 epo, .int .i64 idx, .int .i64 tot, .string s] 54)).drewN n) from fun n => hka.trans (Keeps.of_drewN _ _))
          clear ra hka
          go_region_held3 (fun w' => w'.cell? ⟨β.b, 0, none⟩ = some (ptr β.bm) ∧ w'.cell? ⟨w.heap.size, 3, none⟩ = some (.int .i64 idx) ∧ w'.cell? ⟨w.heap.size, 5, none⟩ = some (.string s))
            (first | exact ⟨g0, g3, g5⟩ | exact HF.out _)
            (first
              | (go_at_call 13; refine (merge_any β.bm σ.l idx s _ (HS.out.map.keeps (HKn.out _).drew (by simp)) hs).mono ?_; rintro e w' ⟨rfl, hm, hk⟩; have g0 := hk.cell (by simpa using Ne.symm HBN.out.1) (HF.out _).1; have g3 := hk.cell (by simpa using Ne.symm HBN.out.2) (HF.out _).2.1; have g5 := hk.cell (by simpa using Ne.symm HBN.out.2) (HF.out _).2.2; have hm := Lib.hid hm; have hk := Lib.hid hk))
          go_wp2_with fail
          go_ret
          exact ⟨ret_int HE.out.symm, by unfold ackS; rw [if_pos HE.out]; exact keeps_map_snd (HS.out.quiet (HKn.out _).drew) hk.out HO.out _ hm.out, ((HKn.out _).drew.mono (by simp)).trans hk.out⟩
      · have t3 : (epo == σ.epo) = false := by simpa using a3
        have HE := Lib.hid (show ackErr σ kind ses epo idx tot = 13 from by unfold ackErr; rw [if_neg (by simpa using a1), if_neg (by simpa using a2), if_pos a3])
        clear a1 a2 a3
        go_enter Try.func34, Try.ntmps34
        go_wp2_with fail
        go_quiet (fail)
        go_wp2_with fail
        go_quiet (fail)
        simp only [World.drewN_drewN]
        go_wp2_with fail
        go_ret
        exact ⟨ret_int HE.out.symm, by unfold ackS; rw [HE.out]; exact HS.out.quiet ((HKA.out _).trans (Keeps.of_drewN _ _)), ((HKA.out _).trans (Keeps.of_drewN _ _)).mono (by simp)⟩
    · have t2 : (ses == σ.ses) = false := by simpa using a2
      have HE := Lib.hid (show ackErr σ kind ses epo idx tot = 12 from by unfold ackErr; rw [if_neg (by simpa using a1), if_pos a2])
      clear a1 a2
      go_enter Try.func34, Try.ntmps34
      go_wp2_with fail
      go_quiet (fail)
      go_wp2_with fail
      go_ret
      exact ⟨ret_int HE.out.symm, by unfold ackS; rw [HE.out]; exact HS.out.quiet ((HKA.out _).trans (Keeps.of_drewN _ _)), ((HKA.out _).trans (Keeps.of_drewN _ _)).mono (by simp)⟩
  · have HE := Lib.hid (show ackErr σ kind ses epo idx tot = 1 from by unfold ackErr; rw [if_pos a1])
    have t1 : (kind == 2) = false := by simpa using a1
    clear a1
    go_enter Try.func34, Try.ntmps34
    go_wp2_with fail
    go_ret
    exact ⟨ret_int HE.out.symm, by unfold ackS; rw [HE.out]; exact HS.out.quiet (HKA.out _), (HKA.out _).mono (by simp)⟩
end Go.Proofs.Ytffcambjdlkfbaa
