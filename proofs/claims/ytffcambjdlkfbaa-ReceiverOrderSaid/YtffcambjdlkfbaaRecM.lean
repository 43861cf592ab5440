/- Contract of the receiver's Cursor (package receiver). -/
import Derived.Test.YtffcambjdlkfbaaRecL
namespace Go.Proofs.Ytffcambjdlkfbaa
open Go.RowKit

theorem chunksB_len (l : List Bool) (c : List ByteArray) (h : ∀ i, (c.getD i noText).size ≤ 1000) (N : Nat) : ∀ k i, i + k ≤ N → N ≤ 1000000 → (chunksB l c i k).length ≤ k * 1020 := by
  intro k
  induction k with
  | zero => intro i _ _; simp [chunksB]
  | succ k ih =>
    intro i hi hN
    rw [chunksB, List.length_append, Nat.succ_mul]
    have h1 := ih (i + 1) (by omega) hN
    have h2 : (if at' l i = true then numB i ++ textB (c.getD i noText) else []).length ≤ 1020 := by
      split
      · unfold textB
        rw [List.length_append, List.length_append]
        have a := numB_len 9 i (by omega)
        have b := numB_len 9 (c.getD i noText).size (by have := h i; omega)
        have d : (c.getD i noText).data.toList.length ≤ 1000 := h i
        omega
      · simp
    omega

theorem wUint77_lit (B b : Nat) (bs : List UInt8) (x : Int) (n : Nat) (w : World) (hx : x = n) (hn : n < 2 ^ 64) (h : WrAt w B b bs) (hB : B ≤ w.heap.size) (hl : bs.length ≤ 1000000) :
    Calls Try.prog 77 #[ptr b, .int .u64 x] w fun e w' => e = .returned (.tuple #[]) ∧ WrAt w' B b (bs ++ numB n) ∧ Over B w w' := by
  subst hx; exact wUint77 B b bs n w hn h hB (by omega)

theorem wrAt_made (w : World) : WrAt (w.alloc (.cells #[.pointer none, .slice none 0 0] 122)) w.heap.size w.heap.size [] :=
  ⟨Nat.le_refl _, _, _, RowAt.new w 122 [.pointer none, .slice none 0 0], .inl rfl, ⟨rfl, .inl ⟨rfl, rfl⟩⟩, by simp [Value.ownBlock]⟩

set_option maxRecDepth 100000 in
set_option maxHeartbeats 4000000 in
theorem cursor44 (b m g cap k t : Nat) (r : Rcv) (w : World) (h : RcvAt w b m g cap k t r) (hg : r.Good) :
    Calls Try.prog 44 #[ptr b] w fun e w' => e = .returned (.string (mkB (cursorL r))) ∧ Keeps [] w w' := by
  have H := Lib.hid h
  have hses := hg.ses
  have hepo := hg.epo
  have hhigh := hg.high
  have hlow := hg.low
  have hlen := hg.len
  have HM := Lib.hid hg.most
  have hk0 := (Keeps.refl [] w).alloc (.cells #[.pointer none, .slice none 0 0] 122)
  have hw0 := wrAt_made w
  have h0 := h.quiet hk0
  have c0 := h0.c0
  have c3 := h0.c3
  have K0 := Lib.hid hk0
  have W0 := Lib.hid hw0
  have l1 := numB_len 9 r.ses (by omega)
  have l2 := numB_len 9 r.epo (by omega)
  have l3 := numB_len 9 r.l.length (by omega)
  have LC := Lib.hid (chunksB_len r.l r.c hg.most r.l.length)
  clear h hg h0 hw0 hk0
  go_enter Try.func44, Try.ntmps44
  go_wp2_with fail
  generalize w.alloc (.cells #[.pointer none, .slice none 0 0] 122) = w0 at *
  generalize hB : w.heap.size = B at W0 ⊢
  have HB := Lib.hid hB; clear hB
  have hB0 : B ≤ w0.heap.size := by rw [← HB.out]; exact K0.out.size
  refine (wUint77 B B [] r.ses w0 (by omega) W0.out hB0 (by simp)).mono ?_
  rintro e w1 ⟨rfl, h1, o1⟩
  rw [List.nil_append] at h1
  have k1 := o1.keeps K0.out (by rw [HB.out]; exact Nat.le_refl _)
  have r1 := H.out.quiet k1
  have d1 := r1.c1
  have hB1 := Nat.le_trans hB0 o1.size
  have H1 := Lib.hid h1
  have K1 := Lib.hid k1
  clear r1 h1 k1 o1 c0 c3 W0
  go_wp2_with fail
  refine (wUint77 B B _ r.epo w1 (by omega) H1.out hB1 (by omega)).mono ?_
  rintro e w2 ⟨rfl, h2, o2⟩
  have k2 := o2.keeps K1.out (by rw [HB.out]; exact Nat.le_refl _)
  have hB2 := Nat.le_trans hB1 o2.size
  have H2 := Lib.hid h2
  have K2 := Lib.hid k2
  clear h2 k2 o2
  go_wp2_with fail
  refine (wUint77 B B _ r.l.length w2 (by omega) H2.out hB2 (by rw [List.length_append]; omega)).mono ?_
  rintro e w3 ⟨rfl, h3, o3⟩
  have k3 := o3.keeps K2.out (by rw [HB.out]; exact Nat.le_refl _)
  have r3 := H.out.quiet k3
  have d3 := r3.c3
  have H3 := Lib.hid h3
  have K3 := Lib.hid k3
  clear r3 h3 k3 o3
  obtain ⟨P, hP⟩ : ∃ P, numB r.ses ++ numB r.epo ++ numB r.l.length = P := ⟨_, rfl⟩
  have hPl : P.length ≤ 30 := by rw [← hP, List.length_append, List.length_append]; omega
  rw [hP] at H3
  have HP := Lib.hid hP; clear hP
  go_wp2_with fail
  go_loopw [39] (fun v wr => ∃ i : Nat, i ≤ r.l.length ∧ v = .int .i64 i ∧ WrAt wr B B (P ++ chunksB r.l r.c 0 i) ∧ Keeps [] w wr) (fun v _ => r.l.length - (intOf v).toNat)
  case atStart => exact ⟨0, Nat.zero_le _, rfl, by simpa [chunksB] using H3.out, K3.out⟩
  case round =>
    obtain ⟨i, hi, rfl, hw, hk⟩ := hrel
    have hbl : (P ++ chunksB r.l r.c 0 i).length ≤ 270000 := by
      rw [List.length_append]
      have := LC.out i 0 (by omega) (by omega)
      omega
    have hBr : B ≤ wr.heap.size := by rw [← HB.out]; exact hk.size
    have rr := H.out.quiet hk
    have HW := Lib.hid hw
    have HK := Lib.hid hk
    clear hw hk
    by_cases hlt : i < r.l.length
    · have ct := rr.txt.cell i (by omega)
      have c2 := rr.c2
      have HS := Lib.hid (chunksB_snoc r.l r.c i 0)
      have hts := HM.out i
      by_cases hb : at' r.l i = true
      · have HH := Lib.hid (has_lit m r.l (i : Int) true wr rr.map (by rw [hasL_nat, hb]))
        have HBi := Lib.hid hb
        clear rr hb
        generalize hT : r.c.getD i noText = T at *
        have HT := Lib.hid hT; clear hT
        go_wp2_with fail
        refine (HH.out).mono ?_
        rintro e w4 ⟨rfl, rfl⟩
        go_wp2_with fail
        refine (wUint77 B B _ i wr (by omega) HW.out hBr (by omega)).mono ?_
        rintro e w5 ⟨rfl, h5, o5⟩
        have k5 := o5.keeps HK.out (by rw [HB.out]; exact Nat.le_refl _)
        have hB5 := Nat.le_trans hBr o5.size
        have l5 := numB_len 9 i (by omega)
        have H5 := Lib.hid h5
        have K5 := Lib.hid k5
        clear h5 k5 o5
        go_wp2_with fail
        refine (wText78 B B _ T w5 H5.out hB5 (by rw [List.length_append]; omega) (by omega)).mono ?_
        rintro e w6 ⟨rfl, h6, o6⟩
        have k6 := o6.keeps K5.out (by rw [HB.out]; exact Nat.le_refl _)
        have H6 := Lib.hid h6
        have K6 := Lib.hid k6
        clear h6 k6 o6
        go_wp2_with fail
        go_roundw
        case rel => exact ⟨i + 1, by omega, by go_num, by
          have := H6.out
          rw [HS.out, Nat.zero_add, if_pos HBi.out, HT.out, ← List.append_assoc, ← List.append_assoc]
          exact this, K6.out⟩
        case measure => simp [intOf]; omega
      · have hb : at' r.l i = false := by simpa using hb
        have HH := Lib.hid (has_lit m r.l (i : Int) false wr rr.map (by rw [hasL_nat, hb]))
        have HBi := Lib.hid hb
        clear rr hb
        go_wp2_with fail
        refine (HH.out).mono ?_
        rintro e w4 ⟨rfl, rfl⟩
        go_wp2_with fail
        go_roundw
        case rel => exact ⟨i + 1, by omega, by go_num, by
          rw [HS.out, Nat.zero_add, if_neg (by rw [HBi.out]; simp), List.append_nil]
          exact HW.out, HK.out⟩
        case measure => simp [intOf]; omega
    · obtain rfl : i = r.l.length := by omega
      clear rr
      go_wp2_with fail
      refine (wUint77 B B _ r.l.length wr (by omega) HW.out hBr (by omega)).mono ?_
      rintro e w5 ⟨rfl, h5, o5⟩
      have k5 := o5.keeps HK.out (by rw [HB.out]; exact Nat.le_refl _)
      have e5 : P ++ chunksB r.l r.c 0 r.l.length ++ numB r.l.length = cursorL r := by
        rw [← HP.out]; unfold cursorL; simp only [List.append_assoc]
      rw [e5] at h5
      have hne : cursorL r ≠ [] := fun e => by
        have : (cursorL r).length = 0 := by rw [e]; rfl
        unfold cursorL at this
        rw [List.length_append] at this
        have h0 : (numB r.ses).length ≠ 0 := by unfold numB; split <;> simp
        omega
      have H5 := Lib.hid h5
      have K5 := Lib.hid k5
      have HNe := Lib.hid hne
      clear h5 k5 o5 e5 hne
      go_wp2_with fail
      refine (wString79 B B (cursorL r) w5 H5.out HNe.out).mono ?_
      rintro e w6 ⟨rfl, o6⟩
      have k6 := o6.keeps K5.out (by rw [HB.out]; exact Nat.le_refl _)
      have K6 := Lib.hid k6
      clear k6 o6
      go_wp2_with fail
      go_ret
      exact ⟨rfl, K6.out⟩
end Go.Proofs.Ytffcambjdlkfbaa
