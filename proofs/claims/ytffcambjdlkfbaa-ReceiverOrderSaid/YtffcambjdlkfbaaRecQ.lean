/- Contract of Resume (package receiver). -/
import Derived.Test.YtffcambjdlkfbaaRecO
namespace Go.Proofs.Ytffcambjdlkfbaa
open Go.RowKit

theorem keeps_new {w w1 w2 : World} {S : List Nat} (k : Keeps [] w w1) (k2 : Keeps S w1 w2) (hS : ∀ x ∈ S, w.heap.size ≤ x) : Keeps [] w w2 := k.then k2 (fun i hi => Or.inr (hS i hi))

theorem small_lit (n m : Nat) (w : World) (h : min n 4294967296 = m) : Calls Try.prog 71 #[.int .u64 n] w fun en w' => en = .returned (.int .i64 m) ∧ w = w' := by
  subst h; exact small71 n w

/-- What Resume leaves. -/
def ResumePost (R : Option Rcv × Int) (w : World) (e : Ending) (w' : World) : Prop :=
  match R.1 with
  | none => e = .returned (.tuple #[.pointer none, .int .i64 R.2]) ∧ Keeps [] w w'
  | some r => r.Good ∧ ∃ b m g cap k, e = .returned (.tuple #[ptr b, .int .i64 R.2]) ∧ RcvAt w' b m g cap k 0 r ∧ (w.heap.size ≤ b ∧ w.heap.size ≤ m ∧ w.heap.size ≤ g ∧ w.heap.size ≤ k) ∧ Keeps [] w w'

theorem resume_none {R : Option Rcv × Int} {E : Int} (h : (none, E) = R) {w w' : World} (k : Keeps [] w w') : ResumePost R w (.returned (.tuple #[.pointer none, .int .i64 E])) w' := by
  subst h; exact ⟨rfl, k⟩
theorem resume_some {R : Option Rcv × Int} {r : Rcv} (h : (some r, 0) = R) {w w' : World} {b m g cap k : Nat} (hg : r.Good) (hr : RcvAt w' b m g cap k 0 r) (hb : w.heap.size ≤ b ∧ w.heap.size ≤ m ∧ w.heap.size ≤ g ∧ w.heap.size ≤ k) (kk : Keeps [] w w') : ResumePost R w (.returned (.tuple #[ptr b, .int .i64 0])) w' := by
  subst h; exact ⟨hg, b, m, g, cap, k, rfl, hr, hb, kk⟩

theorem uintR_lt (k : Nat) : ∀ i n s e, n < 2 ^ (7 * i) → i + k ≤ 10 → (uintR k i n s e).1 < 2 ^ 64 := by
  induction k with
  | zero => intro i n s e _ _; simp [uintR]
  | succ k ih =>
    intro i n s e hn hi
    unfold uintR
    have hc := byteV_lt s e
    split
    · simp
    split
    · simp
    rename_i hx
    split
    · have hM : 2 ^ (7 * i) ≤ 2 ^ 63 := Nat.pow_le_pow_right (by omega) (by omega)
      have hd : byteV s e % 128 * 2 ^ (7 * i) ≤ 2 ^ 63 := by
        by_cases h9 : i = 9
        · have : byteV s e ≤ 1 := by
            rcases Nat.lt_or_ge 1 (byteV s e) with h | h
            · exact absurd (Or.inl ⟨h9, h⟩) hx
            · exact h
          have hc1 : byteV s e % 128 ≤ 1 := by omega
          have := Nat.mul_le_mul_right (2 ^ (7 * i)) hc1
          omega
        · have hM2 : 2 ^ (7 * i) ≤ 2 ^ 56 := Nat.pow_le_pow_right (by omega) (by omega)
          have hc1 : byteV s e % 128 ≤ 127 := by omega
          have := Nat.mul_le_mul_right (2 ^ (7 * i)) hc1
          omega
      have : n + byteV s e % 128 * 2 ^ (7 * i) < 2 ^ 64 := by omega
      exact this
    · exact ih (i + 1) _ _ _ (uint_bound n _ i hn) (by omega)

theorem uintR_lt0 {s : ByteArray} {e : Int} {R : Nat × ByteArray × Int} (h : uintR 10 0 0 s e = R) : R.1 < 2 ^ 64 := by
  subst h; exact uintR_lt 10 0 0 s e (by decide) (by omega)

set_option maxRecDepth 100000 in
set_option maxHeartbeats 8000000 in
theorem resume42 (s : ByteArray) (w : World) (R : Option Rcv × Int) (hR : resumeR s = R) : Calls Try.prog 42 #[.string s] w (ResumePost R w) := by
  obtain ⟨A, hA⟩ : ∃ A, uintR 10 0 0 s 0 = A := ⟨_, rfl⟩
  obtain ⟨B, hB⟩ : ∃ B, uintR 10 0 0 A.2.1 A.2.2 = B := ⟨_, rfl⟩
  obtain ⟨C, hC⟩ : ∃ C, uintR 10 0 0 B.2.1 B.2.2 = C := ⟨_, rfl⟩
  have hM : resumeM A.1 B.1 C.1 C.2.1 C.2.2 = R := by rw [← hR]; unfold resumeR; simp only [hA, hB, hC]
  have hA1 := uintR_lt0 hA
  have hB1 := uintR_lt0 hB
  have hC1 := uintR_lt0 hC
  have HA := Lib.hid hA
  have HB := Lib.hid hB
  have HC := Lib.hid hC
  have HM := Lib.hid hM
  clear hA hB hC hM hR
  go_enter Try.func42, Try.ntmps42
  go_wp2_with fail
  refine (newReader68 s w).mono ?_
  rintro e w1 ⟨rfl, r1, k1⟩
  have hlt := r1.lt
  generalize hrb : w.heap.size = rb at *
  have HRb := Lib.hid hrb; clear hrb
  have k1 := Lib.hid k1
  go_wp2_with fail
  refine (uint69 rb s 0 w1 r1 A HA.out).mono ?_
  rintro e w2 ⟨rfl, r2, k2⟩
  have k2 := Lib.hid (keeps_new k1.out k2 (by rw [HRb.out]; simp))
  clear r1 hlt
  go_wp2_with fail
  refine (uint69 rb A.2.1 A.2.2 w2 r2 B HB.out).mono ?_
  rintro e w3 ⟨rfl, r3, k3⟩
  have k3 := Lib.hid (keeps_new k2.out k3 (by rw [HRb.out]; simp))
  clear r2
  go_wp2_with fail
  refine (uint69 rb B.2.1 B.2.2 w3 r3 C HC.out).mono ?_
  rintro e w4 ⟨rfl, r4, k4⟩
  have k4 := Lib.hid (keeps_new k3.out k4 (by rw [HRb.out]; simp))
  clear r3
  go_wp2_with fail
  refine (err70 rb C.2.1 C.2.2 w4 r4).mono ?_
  rintro e w4' ⟨rfl, rfl⟩
  obtain ⟨a, sa, ea⟩ := A
  obtain ⟨b0, sb, eb⟩ := B
  obtain ⟨n, sc, ec⟩ := C
  dsimp only at *
  unfold resumeM at HM
  by_cases he : ec = 0
  · subst he
    have hM := HM.out
    rw [if_neg (by simp)] at hM
    have HMx := Lib.hid hM
    clear HM hM
    obtain ⟨a', ha'⟩ : ∃ a', min a 4294967296 = a' := ⟨_, rfl⟩
    obtain ⟨b', hb'⟩ : ∃ b', min b0 4294967296 = b' := ⟨_, rfl⟩
    obtain ⟨n', hn'⟩ : ∃ n', min n 4294967296 = n' := ⟨_, rfl⟩
    have hM := HMx.out
    rw [ha', hb', hn'] at hM
    have HSa := Lib.hid (fun w => small_lit a a' w ha')
    have HSb := Lib.hid (fun w => small_lit b0 b' w hb')
    have HSn := Lib.hid (fun w => small_lit n n' w hn')
    have HAb := Lib.hid (And.intro ha' (And.intro hb' hn'))
    clear ha' hb' hn' HMx
    go_wp2_with fail
    refine (HSa.out _).mono ?_
    rintro e w5 ⟨rfl, rfl⟩
    go_wp2_with fail
    refine (HSb.out _).mono ?_
    rintro e w5 ⟨rfl, rfl⟩
    go_wp2_with fail
    refine (HSn.out _).mono ?_
    rintro e w5 ⟨rfl, rfl⟩
    go_wp2_with fail
    by_cases hm : May14 (a' : Int) (b' : Int) (n' : Int)
    · rw [if_neg (by simpa using hm)] at hM
      unfold May14 at hm
      have eA : a' = a := by have := HAb.out; omega
      have eB : b' = b0 := by have := HAb.out; omega
      have eN : n' = n := by have := HAb.out; omega
      subst eA
      subst eB
      subst eN
      have hn1 : 1 ≤ n' := by omega
      have hn2 : n' ≤ 256 := by omega
      have HMx := Lib.hid hM
      clear hM HSa HSb HSn HAb
      refine (new47_yes a' b' n' _ hn1 hn2 (by omega) (by omega)).mono ?_
      rintro e w5 ⟨b, m, g, cap, k, rfl, q5, z5, k5⟩
      have r5 := r4.keeps k5 (by simp)
      have z4 := k4.out.size
      have hnew : w.heap.size ≤ b ∧ w.heap.size ≤ m ∧ w.heap.size ≤ g ∧ w.heap.size ≤ k := by omega
      have hne : rb ≠ m ∧ rb ≠ g ∧ rb ≠ b ∧ rb ≠ k := by have := r4.lt; omega
      have hg := Lib.hid (newR_good a' b' n' (by omega) (by omega) hn1 hn2)
      have k5' := Lib.hid (k4.out.trans k5)
      have HNew := Lib.hid hnew
      have HNe := Lib.hid hne
      have Q5 := Lib.hid q5
      have R5 := Lib.hid r5
      have HApart := Lib.hid q5.apart
      have hlen0 := Lib.hid (show (newR a' b' n').l.length = n' from by simp [newR])
      have hat0 := Lib.hid (show ∀ j : Nat, (-1 : Int) < (j : Int) → at' (newR a' b' n').l j = false from fun j _ => at'_replicate n' j)
      clear q5 z5 k5 r5 r4 hnew hne z4 hm hA1 hB1 hC1
      generalize newR a' b' n' = r0 at *
      go_wp2_with fail
      go_loopw [11] (fun v wr => ∃ (fu : Nat) (sr : ByteArray) (last : Int) (r : Rcv), v = .int .i64 last ∧ RdAt wr rb 134 sr 0 ∧ RcvAt wr b m g cap k 0 r ∧ r.Good ∧ r.l.length = n' ∧ (∀ j : Nat, last < (j : Int) → at' r.l j = false) ∧ -1 ≤ last ∧ last < (n' : Int) ∧ resumeL fu sr last n' r = R ∧ 258 ≤ last + 1 + (fu : Int) ∧ Keeps [] w wr) (fun v _ => (n' - intOf v).toNat)
      case atStart => exact ⟨258, sc, -1, r0, rfl, R5.out, Q5.out, hg.out, hlen0.out, hat0.out, by omega, by omega, HMx.out, by omega, k5'.out⟩
      case round =>
        obtain ⟨fu, sr, last, r, rfl, hrd, hrc, hgd, hln, hat, hl1, hl2, hrs, hfu, hkp⟩ := hrel
        have z0 := hkp.size
        obtain ⟨fu, rfl⟩ : ∃ q, fu = q + 1 := ⟨fu - 1, by omega⟩
        obtain ⟨U, hU⟩ : ∃ U, uintR 10 0 0 sr 0 = U := ⟨_, rfl⟩
        unfold resumeL at hrs
        rw [hU] at hrs
        have hU1 := uintR_lt0 hU
        have HRs := Lib.hid hrs
        have HU := Lib.hid hU
        have HRc := Lib.hid hrc
        have HGd := Lib.hid hgd
        have HAt := Lib.hid hat
        have HKp := Lib.hid hkp
        have HLn := Lib.hid hln
        clear hrs hU hrc hgd hat hkp hln
        go_wp2_with fail
        refine (uint69 rb sr 0 wr hrd U HU.out).mono ?_
        rintro e w6 ⟨rfl, r6, k6⟩
        have q6 := HRc.out.keeps k6 (by simpa using HNe.out.2.2.1.symm) (by simpa using HNe.out.1.symm) (by simpa using HNe.out.2.1.symm) (by simpa using HNe.out.2.2.2.symm)
        have k6' := keeps_new HKp.out k6 (by rw [HRb.out]; simp)
        have Q6 := Lib.hid q6
        have K6 := Lib.hid k6'
        clear q6 k6' k6 hrd
        go_wp2_with fail
        refine (err70 rb U.2.1 U.2.2 w6 r6).mono ?_
        rintro e w6' ⟨rfl, rfl⟩
        obtain ⟨u, s6, e6⟩ := U
        dsimp only at *
        have hrs := HRs.out
        clear HRs
        by_cases he6 : e6 = 0
        · subst he6
          rw [if_neg (by simp)] at hrs
          by_cases hun : u = n'
          · subst hun
            rw [if_pos rfl] at hrs
            have HD := Lib.hid (done72 rb s6 0 w6 r6)
            by_cases hs0 : s6.size = 0
            · rw [if_pos hs0] at hrs
              have hd : doneE s6 0 = 0 := by unfold doneE; rw [if_neg (by simp), if_pos hs0]
              have HRs := Lib.hid hrs
              rw [hd] at HD
              clear hrs hd hs0
              go_wp2_with fail
              refine (HD.out).mono ?_
              rintro e w7 ⟨rfl, rfl⟩
              go_wp2_with fail
              go_ret2
              exact resume_some HRs.out HGd.out Q6.out HNew.out K6.out
            · rw [if_neg hs0] at hrs
              have hd : doneE s6 0 = 4 := by unfold doneE; rw [if_neg (by simp), if_neg hs0]
              have HRs := Lib.hid hrs
              rw [hd] at HD
              clear hrs hd hs0
              go_wp2_with fail
              refine (HD.out).mono ?_
              rintro e w7 ⟨rfl, rfl⟩
              go_wp2_with fail
              go_ret2
              exact resume_none HRs.out K6.out
          · rw [if_neg hun] at hrs
            have t1 : ((u : Int) == (n' : Int)) = false := by simp; omega
            have t1' : (u == n') = false := by simpa using hun
            by_cases hbig : n' < u
            · rw [if_pos hbig] at hrs
              have t2 : decide ((n' : Int) < (u : Int)) = true := decide_eq_true (by omega)
              have t2' : decide (n' < u) = true := decide_eq_true (by omega)
              have HRs := Lib.hid hrs
              clear hrs
              go_wp2_with fail
              go_ret2
              exact resume_none HRs.out K6.out
            · rw [if_neg hbig] at hrs
              have t2 : decide ((n' : Int) < (u : Int)) = false := decide_eq_false (by omega)
              have t2' : decide (n' < u) = false := decide_eq_false (by omega)
              have hun2 : u < n' := by omega
              clear hun hbig
              by_cases hle : (u : Int) ≤ last
              · rw [if_pos hle] at hrs
                have t3 : decide ((u : Int) ≤ last) = true := decide_eq_true hle
                have HRs := Lib.hid hrs
                clear hrs hle
                go_wp2_with fail
                go_ret2
                exact resume_none HRs.out K6.out
              · rw [if_neg hle] at hrs
                have t3 : decide ((u : Int) ≤ last) = false := decide_eq_false hle
                obtain ⟨V, hV⟩ : ∃ V, textR s6 0 = V := ⟨_, rfl⟩
                rw [hV] at hrs
                have HV := Lib.hid hV
                have HRs := Lib.hid hrs
                clear hrs hV
                go_wp2_with fail
                refine (text73 rb s6 0 w6 r6 V HV.out).mono ?_
                rintro e w7 ⟨rfl, r7, k7⟩
                have q7 := Q6.out.keeps k7 (by simpa using HNe.out.2.2.1.symm) (by simpa using HNe.out.1.symm) (by simpa using HNe.out.2.1.symm) (by simpa using HNe.out.2.2.2.symm)
                have k7' := keeps_new K6.out k7 (by rw [HRb.out]; simp)
                have c2 := q7.c2
                have Q7 := Lib.hid q7
                have K7 := Lib.hid k7'
                clear q7 k7' k7 r6
                go_wp2_with fail
                refine (err70 rb V.2.1 V.2.2 w7 r7).mono ?_
                rintro e w7' ⟨rfl, rfl⟩
                obtain ⟨tx, s7, e7⟩ := V
                dsimp only at *
                have hrs := HRs.out
                clear HRs
                by_cases he7 : e7 = 0
                · subst he7
                  rw [if_neg (by simp)] at hrs
                  have HRs := Lib.hid hrs
                  clear hrs
                  have hts := (text_back0 s6 tx s7 HV.out).2
                  have hul : u < r.l.length := by rw [HLn.out]; exact hun2
                  have hbit : at' r.l u = false := HAt.out u (by omega)
                  have hso : setOk r.l (u : Int) = true := by simp [setOk, hbit]; omega
                  have hsl : setL r.l (u : Int) = r.l.set u true := by unfold setL; rw [hso]; simp
                  have HS := Lib.hid (set_lit m r.l _ (u : Int) true w7 Q7.out.map hso hsl)
                  have hgd2 := put_good r HGd.out u hul tx hts
                  have HGd2 := Lib.hid hgd2
                  have hat2 : ∀ j : Nat, (u : Int) < (j : Int) → at' (r.l.set u true) j = false := fun j hj => by
                    rw [at'_set' _ _ _ hul, if_neg (by omega)]; exact HAt.out j (by omega)
                  have HAt2 := Lib.hid hat2
                  have HTs := Lib.hid hts
                  clear hso hsl hgd2 hat2 hbit hts
                  go_wp2_with fail
                  refine (HS.out).mono ?_
                  rintro e w8 ⟨rfl, m8, k8⟩
                  obtain ⟨a1, a2, a3, a4, a5, a6⟩ := HApart.out
                  have c3 := k8.cell (by simpa using a1) Q7.out.c3
                  have ht := Q7.out.txt.keeps k8 (by simpa using a4.symm)
                  have ce := ht.cell u (by rw [Q7.out.len]; exact hul)
                  have fr := ht.free u
                  have hul2 : (u : Int) < (r.l.length : Int) := by omega
                  have r8 := r7.keeps k8 (by simpa using HNe.out.1)
                  have k79 : Keeps [m, g] w7 (w8.setCell ⟨g, u, none⟩ (.string tx)) := (k8.mono (by simp)).trans ((keeps_store1 w8 g u (.string tx)).mono (by simp))
                  have hrow := Q7.out.row.keeps k79 (by simp [a1, a2])
                  have el : (r.put u tx).l.length = r.l.length := by simp [Rcv.put]
                  have hq9 : RcvAt (w8.setCell ⟨g, u, none⟩ (.string tx)) b m g cap k 0 (r.put u tx) := ⟨by rw [el]; exact hrow, m8.keeps (keeps_store1 w8 g u (.string tx)) (by simpa using a4), ht.set u tx, by simpa [Rcv.put] using Q7.out.len, Q7.out.dr.keeps k79 (by simp [a5.symm, a6.symm])⟩
                  have HQ9 := Lib.hid hq9
                  have HR9 := Lib.hid (r8.keeps (keeps_store1 w8 g u (.string tx)) (by simpa using HNe.out.2.1))
                  have HK9 := Lib.hid (keeps_new K7.out k79 (by have := HNew.out; simp; omega))
                  clear hq9 hrow k79 r8 ht m8 k8 a1 a2 a3 a4 a5 a6
                  go_wp2_with fail
                  go_roundw
                  case rel => exact ⟨fu, s7, (u : Int), r.put u tx, rfl, HR9.out, HQ9.out, HGd2.out, by rw [el]; exact HLn.out, HAt2.out, by omega, by omega, HRs.out, by omega, HK9.out⟩
                  case measure => simp [intOf]; omega
                · have t4 : (e7 != 0) = true := by simpa using he7
                  rw [if_pos he7] at hrs
                  have HRs := Lib.hid hrs
                  clear hrs
                  go_wp2_with fail
                  go_ret2
                  exact resume_none HRs.out K7.out
        · have t0 : (e6 != 0) = true := by simpa using he6
          rw [if_pos he6] at hrs
          have HRs := Lib.hid hrs
          clear hrs
          go_wp2_with fail
          go_ret2
          exact resume_none HRs.out K6.out
    · rw [if_pos hm] at hM
      have HMx := Lib.hid hM
      have HNo := Lib.hid hm
      clear hM hm
      refine (new47_no a' b' n' _ HNo.out).mono ?_
      rintro e w5 ⟨rfl, k5⟩
      have k5 := Lib.hid k5
      go_wp2_with fail
      go_ret2
      exact resume_none HMx.out (k4.out.trans k5.out)
  · have t0 : (ec != 0) = true := by simpa using he
    have hM := HM.out
    rw [if_pos he] at hM
    have HMx := Lib.hid hM
    clear HM hM
    go_wp2_with fail
    go_ret2
    exact resume_none HMx.out k4.out
end Go.Proofs.Ytffcambjdlkfbaa
