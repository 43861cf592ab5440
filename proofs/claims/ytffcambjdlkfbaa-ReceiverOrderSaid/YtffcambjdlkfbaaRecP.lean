/- Contract of the reference receiver's Cursor (signpostref14). -/
import Derived.Test.YtffcambjdlkfbaaRecO
namespace Go.Proofs.Ytffcambjdlkfbaa
open Go.RowKit

theorem number_lit (n : Nat) (x : Int) (A : ByteArray) (w : World) (hx : x = n) (hn : n < 2 ^ 64) (hA : mkB (numB n) = A) : Calls Try.prog 83 #[.int .u64 x] w fun e w' => e = .returned (.string A) ∧ Keeps [] w w' := by
  subst hx; subst hA; exact number83_any n n (Nat.le_refl _) hn w
theorem rtext_lit (s A : ByteArray) (w : World) (hs : s.size ≤ 1000000) (hA : mkB (textB s) = A) : Calls Try.prog 84 #[.string s] w fun e w' => e = .returned (.string A) ∧ Keeps [] w w' := by
  subst hA; exact rtext84 s w hs

section
variable {w0 w' : World} {b gc cc : Nat} {r : Rcv} (h : w'.cell? ⟨b, 0, none⟩ = some (.int .i64 r.ses) ∧ w'.cell? ⟨b, 1, none⟩ = some (.int .i64 r.epo) ∧ w'.cell? ⟨b, 3, none⟩ = some (.slice (some ⟨gc, 0, none⟩) r.l.length cc) ∧ Keeps [] w0 w')
include h
theorem number56 (x : Int) (n : Nat) (A : ByteArray) (hx : x = n) (hn : n < 2 ^ 64) (hA : mkB (numB n) = A) : Calls Try.prog 83 #[.int .u64 x] w' fun e w'' => e = .returned (.string A) ∧ w''.cell? ⟨b, 0, none⟩ = some (.int .i64 r.ses) ∧ w''.cell? ⟨b, 1, none⟩ = some (.int .i64 r.epo) ∧ w''.cell? ⟨b, 3, none⟩ = some (.slice (some ⟨gc, 0, none⟩) r.l.length cc) ∧ Keeps [] w0 w'' :=
  (number_lit n x A w' hx hn hA).mono fun _ _ ⟨h1, hk⟩ => ⟨h1, hk.cell (by simp) h.1, hk.cell (by simp) h.2.1, hk.cell (by simp) h.2.2.1, h.2.2.2.trans hk⟩
end

section
variable {w0 w' : World} {b gc cc i : Nat} {T : ByteArray} {r : Rcv} (h : w'.cell? ⟨b, 3, none⟩ = some (.slice (some ⟨gc, 0, none⟩) r.l.length cc) ∧ w'.cell? ⟨gc, i, none⟩ = some (.string T) ∧ Keeps [] w0 w')
include h
theorem number56b (x : Int) (n : Nat) (A : ByteArray) (hx : x = n) (hn : n < 2 ^ 64) (hA : mkB (numB n) = A) : Calls Try.prog 83 #[.int .u64 x] w' fun e w'' => e = .returned (.string A) ∧ w''.cell? ⟨b, 3, none⟩ = some (.slice (some ⟨gc, 0, none⟩) r.l.length cc) ∧ w''.cell? ⟨gc, i, none⟩ = some (.string T) ∧ Keeps [] w0 w'' :=
  (number_lit n x A w' hx hn hA).mono fun _ _ ⟨h1, hk⟩ => ⟨h1, hk.cell (by simp) h.1, hk.cell (by simp) h.2.1, h.2.2.trans hk⟩
theorem text56b (A : ByteArray) (hs : T.size ≤ 1000000) (hA : mkB (textB T) = A) : Calls Try.prog 84 #[.string T] w' fun e w'' => e = .returned (.string A) ∧ w''.cell? ⟨b, 3, none⟩ = some (.slice (some ⟨gc, 0, none⟩) r.l.length cc) ∧ w''.cell? ⟨gc, i, none⟩ = some (.string T) ∧ Keeps [] w0 w'' :=
  (rtext_lit T A w' hs hA).mono fun _ _ ⟨h1, hk⟩ => ⟨h1, hk.cell (by simp) h.1, hk.cell (by simp) h.2.1, h.2.2.trans hk⟩
end

theorem name_bytes (l : List UInt8) (N : Nat) (h : l.length ≤ N) : ∃ A : ByteArray, mkB l = A ∧ A.size ≤ N := ⟨_, rfl, by rw [size_mkB]; exact h⟩
theorem app2 {a b : List UInt8} {A B : ByteArray} (hA : mkB a = A) (hB : mkB b = B) : A ++ B = mkB (a ++ b) := by subst hA; subst hB; rw [mkB_append]

set_option maxRecDepth 100000 in
set_option maxHeartbeats 4000000 in
theorem cursor56 (b gi ci gc cc gd cd t : Nat) (r : Rcv) (w : World) (h : RefAt w b gi ci gc cc gd cd t r) (hg : r.Good) :
    Calls Try.prog 56 #[ptr b] w fun e w' => e = .returned (.string (mkB (cursorL r))) ∧ Keeps [] w w' := by
  have H := Lib.hid h
  have hses := hg.ses
  have hepo := hg.epo
  have hhigh := hg.high
  have hlow := hg.low
  have hlen := hg.len
  have HM := Lib.hid hg.most
  obtain ⟨A, hA, hAs⟩ := name_bytes (numB r.ses) 10 (numB_len 9 r.ses (by omega))
  obtain ⟨B, hB, hBs⟩ := name_bytes (numB r.epo) 10 (numB_len 9 r.epo (by omega))
  obtain ⟨N, hN, hNs⟩ := name_bytes (numB r.l.length) 10 (numB_len 9 r.l.length (by omega))
  have LC := Lib.hid (chunksB_len r.l r.c hg.most r.l.length)
  have hS0 := Lib.hid (show w.drew.cell? ⟨b, 0, none⟩ = some (.int .i64 r.ses) ∧ w.drew.cell? ⟨b, 1, none⟩ = some (.int .i64 r.epo) ∧ w.drew.cell? ⟨b, 3, none⟩ = some (.slice (some ⟨gc, 0, none⟩) r.l.length cc) ∧ Keeps [] w w.drew from ⟨h.c0, h.c1, h.c3, (Keeps.refl [] w).drew⟩)
  have HA := Lib.hid hA
  have HB := Lib.hid hB
  have HN := Lib.hid hN
  have hP := app2 (by rw [← app2 hA hB] : mkB (numB r.ses ++ numB r.epo) = A ++ B) hN
  obtain ⟨P, hPP⟩ : ∃ P, A ++ B ++ N = P := ⟨_, rfl⟩
  have hPs : P.size ≤ 30 := by rw [← hPP]; simp; omega
  rw [hPP] at hP
  have HP := Lib.hid hP
  have s1 : A.size + B.size ≤ 9223372036854775807 := by omega
  have s2 : A.size + B.size + N.size ≤ 9223372036854775807 := by omega
  have s3 : ¬ 9223372036854775807 < A.size + B.size := by omega
  have s4 : ¬ 9223372036854775807 < A.size + B.size + N.size := by omega
  have HPP := Lib.hid hPP
  clear h hg hA hB hN hP hPP
  go_enter Try.func56, Try.ntmps56
  go_wp2_with fail
  go_cut [3] (fun v wx => v = .string P ∧ Keeps [] w wx)
  case first =>
    go_region_held3 (fun w' => w'.cell? ⟨b, 0, none⟩ = some (.int .i64 r.ses) ∧ w'.cell? ⟨b, 1, none⟩ = some (.int .i64 r.epo) ∧ w'.cell? ⟨b, 3, none⟩ = some (.slice (some ⟨gc, 0, none⟩) r.l.length cc) ∧ Keeps [] w w')
      (first | with_reducible assumption | with_reducible exact hS0.out)
      (first
        | (go_at_call 83; refine (number56 (by first | with_reducible assumption | with_reducible exact hS0.out) _ r.ses A (by first | with_reducible rfl | (rw [IntKind.wrap_u64]; omega)) (by omega) HA.out).mono ?_; rintro e w' ⟨rfl, hS⟩)
        | (go_at_call 83; refine (number56 (by first | with_reducible assumption | with_reducible exact hS0.out) _ r.epo B (by first | with_reducible rfl | (rw [IntKind.wrap_u64]; omega)) (by omega) HB.out).mono ?_; rintro e w' ⟨rfl, hS⟩)
        | (go_at_call 83; refine (number56 (by first | with_reducible assumption | with_reducible exact hS0.out) _ r.l.length N (by first | with_reducible rfl | (rw [IntKind.wrap_u64]; omega)) (by omega) HN.out).mono ?_; rintro e w' ⟨rfl, hS⟩))
    go_wp2_with fail
    go_meet
    rename_i hlast
    exact ⟨by rw [HPP.out], hlast.2.2.2⟩
  case rest =>
    obtain ⟨rfl, k1⟩ := hcut
    have K1 := Lib.hid k1
    have r1 := H.out.quiet k1
    have c3 := r1.c3
    clear r1 k1 s1 s2 s3 s4 hS0
    obtain ⟨Q, hQ⟩ : ∃ Q, numB r.ses ++ numB r.epo ++ numB r.l.length = Q := ⟨_, rfl⟩
    rw [hQ] at HP
    have hQl : Q.length ≤ 30 := by
      have h1 := numB_len 9 r.ses (by omega)
      have h2 := numB_len 9 r.epo (by omega)
      have h3 := numB_len 9 r.l.length (by omega)
      rw [← hQ, List.length_append, List.length_append]; omega
    have HQ := Lib.hid hQ
    clear hQ HPP HA HB
    go_wp2_with fail
    go_loopw [3, 4] (fun v c wr => ∃ i : Nat, i ≤ r.l.length ∧ c = .int .i64 i ∧ v = .string (mkB (Q ++ chunksB r.l r.c 0 i)) ∧ Keeps [] w wr) (fun _ c _ => r.l.length - (intOf c).toNat)
    case atStart => exact ⟨0, Nat.zero_le _, rfl, by simpa [chunksB] using HP.out, K1.out⟩
    case round =>
      obtain ⟨i, hi, rfl, rfl, hk⟩ := hrel
      have hbl : (Q ++ chunksB r.l r.c 0 i).length ≤ 270000 := by
        rw [List.length_append]
        have := LC.out i 0 (by omega) (by omega)
        omega
      have hbs : (mkB (Q ++ chunksB r.l r.c 0 i)).size ≤ 270000 := by rw [size_mkB]; exact hbl
      have rr := H.out.quiet hk
      have c3 := rr.c3
      have HK := Lib.hid hk
      generalize hX : mkB (Q ++ chunksB r.l r.c 0 i) = X at hbs ⊢
      have HX := Lib.hid hX
      clear hk hbl hX
      by_cases hlt : i < r.l.length
      · have c2 := rr.c2
        have cb := rr.bools.cell i hlt
        have ct := rr.txt.cell i (by omega)
        have HS := Lib.hid (chunksB_snoc r.l r.c i 0)
        have hts := HM.out i
        have hlt2 : (i : Int) < (r.l.length : Int) := by omega
        by_cases hb : at' r.l i = true
        · rw [hb] at cb
          have HBi := Lib.hid hb
          clear hb rr
          generalize hT : r.c.getD i noText = T at *
          have HT := Lib.hid hT; clear hT
          have htl : (textB T).length ≤ 1010 := by
            unfold textB
            have h1 := numB_len 9 T.size (by omega)
            have h2 : T.data.toList.length = T.size := rfl
            rw [List.length_append]; omega
          obtain ⟨D, hD, hDs⟩ := name_bytes (numB i) 10 (numB_len 9 i (by omega))
          obtain ⟨F, hF, hFs⟩ := name_bytes (textB T) 1010 htl
          have HD := Lib.hid hD
          have HF := Lib.hid hF
          have s1 : D.size + F.size ≤ 9223372036854775807 := by omega
          have s2 : X.size + (D.size + F.size) ≤ 9223372036854775807 := by omega
          have s3 : ¬ 9223372036854775807 < D.size + F.size := by omega
          have s4 : ¬ 9223372036854775807 < X.size + (D.size + F.size) := by omega
          have hS1 := Lib.hid (show wr.drew.cell? ⟨b, 3, none⟩ = some (.slice (some ⟨gc, 0, none⟩) r.l.length cc) ∧ wr.drew.cell? ⟨gc, i, none⟩ = some (.string T) ∧ Keeps [] wr wr.drew from ⟨c3, ct, (Keeps.refl [] wr).drew⟩)
          clear hD hF htl
          go_wp2_with fail
          go_region_held3 (fun w' => w'.cell? ⟨b, 3, none⟩ = some (.slice (some ⟨gc, 0, none⟩) r.l.length cc) ∧ w'.cell? ⟨gc, i, none⟩ = some (.string T) ∧ Keeps [] wr w')
            (first | with_reducible assumption | with_reducible exact hS1.out)
            (first
              | (go_at_call 83; refine (number56b (by first | with_reducible assumption | with_reducible exact hS1.out) _ i D (by first | with_reducible rfl | (rw [IntKind.wrap_u64]; omega)) (by omega) HD.out).mono ?_; rintro e w' ⟨rfl, hS⟩)
              | (go_at_call 84; refine (text56b (by first | with_reducible assumption | with_reducible exact hS1.out) F (by omega) HF.out).mono ?_; rintro e w' ⟨rfl, hS⟩))
          rename_i hlast
          have K2 := Lib.hid hlast.2.2
          clear hlast
          go_wp2_with fail
          go_roundw
          case rel => exact ⟨i + 1, by omega, by go_num, by
            rw [HS.out, Nat.zero_add, if_pos HBi.out, HT.out, ← HX.out, ← HD.out, ← HF.out, mkB_append, mkB_append]
            simp only [List.append_assoc], HK.out.trans K2.out⟩
          case measure => simp [intOf]; omega
        · have hb : at' r.l i = false := by simpa using hb
          rw [hb] at cb
          have HBi := Lib.hid hb
          clear hb rr
          go_wp2_with fail
          go_roundw
          case rel => exact ⟨i + 1, by omega, by go_num, by rw [HS.out, Nat.zero_add, if_neg (by rw [HBi.out]; simp), List.append_nil, HX.out], HK.out⟩
          case measure => simp [intOf]; omega
      · obtain rfl : i = r.l.length := by omega
        clear rr
        have HL := Lib.hid (number_lit r.l.length r.l.length N wr rfl (by omega) HN.out)
        go_wp2_with fail
        refine (HL.out).mono ?_
        rintro e w5 ⟨rfl, k5⟩
        have K5 := Lib.hid k5
        clear k5
        go_wp2_with fail
        go_ret
        have e5 : X ++ N = mkB (cursorL r) := by
          rw [← HX.out, ← HN.out, mkB_append]
          unfold cursorL
          rw [← HQ.out]
          simp only [List.append_assoc]
        exact ⟨ret_str e5, HK.out.trans K5.out⟩
end Go.Proofs.Ytffcambjdlkfbaa
