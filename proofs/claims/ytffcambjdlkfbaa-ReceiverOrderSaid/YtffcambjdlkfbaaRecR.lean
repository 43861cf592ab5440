/- Contract of the reference's Resume (signpostref14). -/
import Derived.Test.YtffcambjdlkfbaaRecQ
import Derived.Test.YtffcambjdlkfbaaRecP
namespace Go.Proofs.Ytffcambjdlkfbaa
open Go.RowKit

theorem small_lit75 (n m : Nat) (w : World) (h : min n 4294967296 = m) : Calls Try.prog 75 #[.int .u64 n] w fun en w' => en = .returned (.int .i64 m) ∧ w = w' := by
  subst h; exact small75 n w
theorem may_lit (ses epo tot : Int) (q : Bool) (w : World) (h : decide (May14 ses epo tot) = q) : Calls Try.prog 48 #[.int .i64 ses, .int .i64 epo, .int .i64 tot] w fun e w' => e = .returned (.bool q) ∧ w = w' := by
  subst h; exact may48 ses epo tot w

/-- What the reference's Resume leaves. -/
def RResumePost (R : Option Rcv × Int) (w : World) (e : Ending) (w' : World) : Prop :=
  match R.1 with
  | none => e = .returned (.tuple #[.pointer none, .int .i64 R.2]) ∧ Keeps [] w w'
  | some r => r.Good ∧ ∃ b gi ci gc cc gd cd, e = .returned (.tuple #[ptr b, .int .i64 R.2]) ∧ RefAt w' b gi ci gc cc gd cd 0 r ∧ (w.heap.size ≤ b ∧ w.heap.size ≤ gi ∧ w.heap.size ≤ gc ∧ w.heap.size ≤ gd) ∧ Keeps [] w w'

theorem rresume_none {R : Option Rcv × Int} {E : Int} (h : (none, E) = R) {w w' : World} (k : Keeps [] w w') : RResumePost R w (.returned (.tuple #[.pointer none, .int .i64 E])) w' := by
  subst h; exact ⟨rfl, k⟩
theorem rresume_some {R : Option Rcv × Int} {r : Rcv} (h : (some r, 0) = R) {w w' : World} {b gi ci gc cc gd cd : Nat} (hg : r.Good) (hr : RefAt w' b gi ci gc cc gd cd 0 r) (hb : w.heap.size ≤ b ∧ w.heap.size ≤ gi ∧ w.heap.size ≤ gc ∧ w.heap.size ≤ gd) (kk : Keeps [] w w') : RResumePost R w (.returned (.tuple #[ptr b, .int .i64 0])) w' := by
  subst h; exact ⟨hg, b, gi, ci, gc, cc, gd, cd, rfl, hr, hb, kk⟩

theorem empty_yes {s : ByteArray} (h : s.size = 0) : s.toList.isEmpty = true := by
  rw [ByteArray.toList_eq]
  have : s.data.toList.length = 0 := h
  rw [List.length_eq_zero_iff.1 this]; rfl
theorem empty_no {s : ByteArray} (h : s.size ≠ 0) : s.toList.isEmpty = false := by
  rw [ByteArray.toList_eq]
  have : s.data.toList.length ≠ 0 := h
  cases hq : s.data.toList with
  | nil => rw [hq] at this; simp at this
  | cons => rfl

set_option maxRecDepth 100000 in
set_option maxHeartbeats 8000000 in
theorem resume43 (s : ByteArray) (w : World) (R : Option Rcv × Int) (hR : resumeR s = R) : Calls Try.prog 43 #[.string s] w (RResumePost R w) := by
  obtain ⟨A, hA⟩ : ∃ A, uintR 10 0 0 s 0 = A := ⟨_, rfl⟩
  obtain ⟨B, hB⟩ : ∃ B, uintR 10 0 0 A.2.1 A.2.2 = B := ⟨_, rfl⟩
  obtain ⟨C, hC⟩ : ∃ C, uintR 10 0 0 B.2.1 B.2.2 = C := ⟨_, rfl⟩
  have hM : resumeM A.1 B.1 C.1 C.2.1 C.2.2 = R := by rw [← hR]; unfold resumeR; simp only [hA, hB, hC]
  have hA1 := uintR_lt0 hA
  have hB1 := uintR_lt0 hB
  have hC1 := uintR_lt0 hC
  have HA := Lib.hid hA
  have HB := Lib.hid hB
  have HC := Lib.hid hC
  have HM := Lib.hid hM
  have r1 : RdAt (w.alloc (.cells #[.string s, .int .i64 0] 116)) w.heap.size 116 s 0 := RowAt.new w 116 [.string s, .int .i64 0]
  have k1 := Lib.hid ((Keeps.refl [] w).alloc (.cells #[.string s, .int .i64 0] 116))
  clear hA hB hC hM hR
  go_enter Try.func43, Try.ntmps43
  go_wp2_with fail
  generalize w.alloc (.cells #[.string s, .int .i64 0] 116) = w1 at *
  generalize hrb : w.heap.size = rb at *
  have HRb := Lib.hid hrb; clear hrb
  refine (uint74 rb s 0 w1 r1 A HA.out).mono ?_
  rintro e w2 ⟨rfl, r2, k2⟩
  have k2 := Lib.hid (keeps_new k1.out k2 (by rw [HRb.out]; simp))
  clear r1
  go_wp2_with fail
  refine (uint74 rb A.2.1 A.2.2 w2 r2 B HB.out).mono ?_
  rintro e w3 ⟨rfl, r3, k3⟩
  have k3 := Lib.hid (keeps_new k2.out k3 (by rw [HRb.out]; simp))
  clear r2
  go_wp2_with fail
  refine (uint74 rb B.2.1 B.2.2 w3 r3 C HC.out).mono ?_
  rintro e w4 ⟨rfl, r4, k4⟩
  have k4 := Lib.hid (keeps_new k3.out k4 (by rw [HRb.out]; simp))
  clear r3
  have c1 := r4.c1
  obtain ⟨a, sa, ea⟩ := A
  obtain ⟨b0, sb, eb⟩ := B
  obtain ⟨n, sc, ec⟩ := C
  dsimp only at *
  unfold resumeM at HM
  by_cases he : ec = 0
  · subst he
    have hM := HM.out
    rw [if_neg (by simp)] at hM
    have HMx := Lib.hid hM
    clear HM hM
    obtain ⟨a', ha'⟩ : ∃ a', min a 4294967296 = a' := ⟨_, rfl⟩
    obtain ⟨b', hb'⟩ : ∃ b', min b0 4294967296 = b' := ⟨_, rfl⟩
    obtain ⟨n', hn'⟩ : ∃ n', min n 4294967296 = n' := ⟨_, rfl⟩
    have hM := HMx.out
    rw [ha', hb', hn'] at hM
    have HSa := Lib.hid (fun w => small_lit75 a a' w ha')
    have HSb := Lib.hid (fun w => small_lit75 b0 b' w hb')
    have HSn := Lib.hid (fun w => small_lit75 n n' w hn')
    have HAb := Lib.hid (And.intro ha' (And.intro hb' hn'))
    clear ha' hb' hn' HMx
    go_wp2_with fail
    refine (HSa.out _).mono ?_
    rintro e w5 ⟨rfl, rfl⟩
    go_wp2_with fail
    refine (HSb.out _).mono ?_
    rintro e w5 ⟨rfl, rfl⟩
    go_wp2_with fail
    refine (HSn.out _).mono ?_
    rintro e w5 ⟨rfl, rfl⟩
    go_wp2_with fail
    by_cases hm : May14 (a' : Int) (b' : Int) (n' : Int)
    · rw [if_neg (by simpa using hm)] at hM
      have HMay := Lib.hid (decide_eq_true hm)
      unfold May14 at hm
      have eA : a' = a := by have := HAb.out; omega
      have eB : b' = b0 := by have := HAb.out; omega
      have eN : n' = n := by have := HAb.out; omega
      subst eA
      subst eB
      subst eN
      have hn1 : 1 ≤ n' := by omega
      have hn2 : n' ≤ 256 := by omega
      have ha2 : a' < 4294967296 := by omega
      have hb2 : b' < 4294967296 := by omega
      have HMx := Lib.hid hM
      clear hM HSa HSb HSn HAb hm hA1 hB1 hC1
      refine (may_lit a' b' n' true _ HMay.out).mono ?_
      rintro e w5 ⟨rfl, rfl⟩
      go_wp2_with fail
      refine (new49 a' b' n' _ hn2).mono ?_
      rintro e w5 ⟨b, gi, ci, gc, cc, gd, cd, rfl, q5, z5, k5⟩
      have r5 := r4.keeps k5 (by simp)
      have z4 := k4.out.size
      have hnew : w.heap.size ≤ b ∧ w.heap.size ≤ gi ∧ w.heap.size ≤ gc ∧ w.heap.size ≤ gd := by omega
      have hne : rb ≠ gi ∧ rb ≠ gc ∧ rb ≠ b ∧ rb ≠ gd := by have := r4.lt; omega
      have hg := Lib.hid (newR_good a' b' n' (by omega) (by omega) hn1 hn2)
      have k5' := Lib.hid (k4.out.trans k5)
      have HNew := Lib.hid hnew
      have HNe := Lib.hid hne
      have Q5 := Lib.hid q5
      have R5 := Lib.hid r5
      have HApart := Lib.hid q5.apart
      have hlen0 := Lib.hid (show (newR a' b' n').l.length = n' from by simp [newR])
      have hat0 := Lib.hid (show ∀ j : Nat, (-1 : Int) < (j : Int) → at' (newR a' b' n').l j = false from fun j _ => at'_replicate n' j)
      clear q5 z5 k5 r5 r4 hnew hne z4 c1
      generalize newR a' b' n' = r0 at *
      go_wp2_with fail
      go_loopw [9] (fun v wr => ∃ (fu : Nat) (sr : ByteArray) (last : Int) (r : Rcv), v = .int .i64 last ∧ RdAt wr rb 116 sr 0 ∧ RefAt wr b gi ci gc cc gd cd 0 r ∧ r.Good ∧ r.l.length = n' ∧ (∀ j : Nat, last < (j : Int) → at' r.l j = false) ∧ -1 ≤ last ∧ last < (n' : Int) ∧ resumeL fu sr last n' r = R ∧ 258 ≤ last + 1 + (fu : Int) ∧ Keeps [] w wr) (fun v _ => (n' - intOf v).toNat)
      case atStart => exact ⟨258, sc, -1, r0, rfl, R5.out, Q5.out, hg.out, hlen0.out, hat0.out, by omega, by omega, HMx.out, by omega, k5'.out⟩
      case round =>
        obtain ⟨fu, sr, last, r, rfl, hrd, hrc, hgd, hln, hat, hl1, hl2, hrs, hfu, hkp⟩ := hrel
        have z0 := hkp.size
        obtain ⟨fu, rfl⟩ : ∃ q, fu = q + 1 := ⟨fu - 1, by omega⟩
        obtain ⟨U, hU⟩ : ∃ U, uintR 10 0 0 sr 0 = U := ⟨_, rfl⟩
        unfold resumeL at hrs
        rw [hU] at hrs
        have hU1 := uintR_lt0 hU
        have HRs := Lib.hid hrs
        have HU := Lib.hid hU
        have HRc := Lib.hid hrc
        have HGd := Lib.hid hgd
        have HAt := Lib.hid hat
        have HKp := Lib.hid hkp
        have HLn := Lib.hid hln
        clear hrs hU hrc hgd hat hkp hln
        go_wp2_with fail
        refine (uint74 rb sr 0 wr hrd U HU.out).mono ?_
        rintro e w6 ⟨rfl, r6, k6⟩
        have q6 := HRc.out.keeps k6 (by simpa using HNe.out.2.2.1.symm) (by simpa using HNe.out.1.symm) (by simpa using HNe.out.2.1.symm) (by simpa using HNe.out.2.2.2.symm)
        have k6' := keeps_new HKp.out k6 (by rw [HRb.out]; simp)
        have Q6 := Lib.hid q6
        have K6 := Lib.hid k6'
        clear q6 k6' k6 hrd
        have d1 := r6.c1
        have d0 := r6.c0
        obtain ⟨u, s6, e6⟩ := U
        dsimp only at *
        have hrs := HRs.out
        clear HRs
        by_cases he6 : e6 = 0
        · subst he6
          rw [if_neg (by simp)] at hrs
          by_cases hun : u = n'
          · subst hun
            rw [if_pos rfl] at hrs
            by_cases hs0 : s6.size = 0
            · rw [if_pos hs0] at hrs
              have hem := empty_yes hs0
              have HRs := Lib.hid hrs
              clear hrs hs0
              go_wp2_with fail
              go_ret2
              exact rresume_some HRs.out HGd.out Q6.out HNew.out K6.out
            · rw [if_neg hs0] at hrs
              have hem := empty_no hs0
              have HRs := Lib.hid hrs
              clear hrs hs0
              go_wp2_with fail
              go_ret2
              exact rresume_none HRs.out K6.out
          · rw [if_neg hun] at hrs
            have t1 : ((u : Int) == (n' : Int)) = false := by simp; omega
            have t1' : (u == n') = false := by simpa using hun
            by_cases hbig : n' < u
            · rw [if_pos hbig] at hrs
              have t2 : decide ((n' : Int) < (u : Int)) = true := decide_eq_true (by omega)
              have t2' : decide (n' < u) = true := decide_eq_true (by omega)
              have HRs := Lib.hid hrs
              clear hrs
              go_wp2_with fail
              go_ret2
              exact rresume_none HRs.out K6.out
            · rw [if_neg hbig] at hrs
              have t2 : decide ((n' : Int) < (u : Int)) = false := decide_eq_false (by omega)
              have t2' : decide (n' < u) = false := decide_eq_false (by omega)
              have hun2 : u < n' := by omega
              clear hun hbig
              by_cases hle : (u : Int) ≤ last
              · rw [if_pos hle] at hrs
                have t3 : decide ((u : Int) ≤ last) = true := decide_eq_true hle
                have HRs := Lib.hid hrs
                clear hrs hle
                go_wp2_with fail
                go_ret2
                exact rresume_none HRs.out K6.out
              · rw [if_neg hle] at hrs
                have t3 : decide ((u : Int) ≤ last) = false := decide_eq_false hle
                obtain ⟨V, hV⟩ : ∃ V, textR s6 0 = V := ⟨_, rfl⟩
                rw [hV] at hrs
                have HV := Lib.hid hV
                have HRs := Lib.hid hrs
                clear hrs hV
                go_wp2_with fail
                refine (text76 rb s6 0 w6 r6 V HV.out).mono ?_
                rintro e w7 ⟨rfl, r7, k7⟩
                have q7 := Q6.out.keeps k7 (by simpa using HNe.out.2.2.1.symm) (by simpa using HNe.out.1.symm) (by simpa using HNe.out.2.1.symm) (by simpa using HNe.out.2.2.2.symm)
                have k7' := keeps_new K6.out k7 (by rw [HRb.out]; simp)
                have c2 := q7.c2
                have Q7 := Lib.hid q7
                have K7 := Lib.hid k7'
                have f1 := r7.c1
                clear q7 k7' k7 r6 d1 d0
                obtain ⟨tx, s7, e7⟩ := V
                dsimp only at *
                have hrs := HRs.out
                clear HRs
                by_cases he7 : e7 = 0
                · subst he7
                  rw [if_neg (by simp)] at hrs
                  have HRs := Lib.hid hrs
                  clear hrs
                  have hts := (text_back0 s6 tx s7 HV.out).2
                  have hul : u < r.l.length := by rw [HLn.out]; exact hun2
                  have hgd2 := put_good r HGd.out u hul tx hts
                  have HGd2 := Lib.hid hgd2
                  have hat2 : ∀ j : Nat, (u : Int) < (j : Int) → at' (r.l.set u true) j = false := fun j hj => by
                    rw [at'_set' _ _ _ hul, if_neg (by omega)]; exact HAt.out j (by omega)
                  have HAt2 := Lib.hid hat2
                  have cb := Q7.out.bools.cell u hul
                  have fb := Q7.out.bools.free u
                  obtain ⟨a1, a2, a3, a4, a5, a6⟩ := HApart.out
                  have k78 := keeps_store1 w7 gi u (.bool true)
                  have c3 := k78.cell (by simpa using a1) Q7.out.c3
                  have ht := Q7.out.txt.keeps k78 (by simpa using a4.symm)
                  have ce := ht.cell u (by rw [Q7.out.len]; exact hul)
                  have fr := ht.free u
                  have hul2 : (u : Int) < (r.l.length : Int) := by omega
                  have hb8 := Q7.out.bools.set u true
                  have r8 := r7.keeps k78 (by simpa using HNe.out.1)
                  clear hgd2 hat2 hts
                  obtain ⟨w8, hw8⟩ : ∃ w8, w7.setCell ⟨gi, u, none⟩ (.bool true) = w8 := ⟨_, rfl⟩
                  have HW8 := Lib.hid hw8
                  have c3' := c3
                  have ce' := ce
                  have fr' := fr
                  rw [hw8] at k78 ht hb8 r8
                  have k89 := keeps_store1 w8 gc u (.string tx)
                  have k79 : Keeps [gi, gc] w7 (w8.setCell ⟨gc, u, none⟩ (.string tx)) := (k78.mono (by simp)).trans (k89.mono (by simp))
                  have hrow := Q7.out.row.keeps k79 (by simp [a1, a2])
                  have el : (r.put u tx).l.length = r.l.length := by simp [Rcv.put]
                  have hq9 : RefAt (w8.setCell ⟨gc, u, none⟩ (.string tx)) b gi ci gc cc gd cd 0 (r.put u tx) := ⟨by rw [el]; exact hrow, hb8.keeps k89 (by simpa using a4), ht.set u tx, by simpa [Rcv.put] using Q7.out.len, Q7.out.nums.keeps k79 (by simp [a5.symm, a6.symm]), Q7.out.dlen, Q7.out.dle⟩
                  have HQ9 := Lib.hid hq9
                  have HR9 := Lib.hid (r8.keeps k89 (by simpa using HNe.out.2.1))
                  have HK9 := Lib.hid (keeps_new K7.out k79 (by have := HNew.out; simp; omega))
                  rw [← hw8] at HQ9 HR9 HK9
                  clear hq9 hrow k79 r8 ht k78 k89 hb8 r7 a1 a2 a3 a4 a5 a6 c3' ce' fr' HW8 hw8
                  go_wp2_with fail
                  go_roundw
                  case rel => exact ⟨fu, s7, (u : Int), r.put u tx, rfl, HR9.out, HQ9.out, HGd2.out, by rw [el]; exact HLn.out, HAt2.out, by omega, by omega, HRs.out, by omega, HK9.out⟩
                  case measure => simp [intOf]; omega
                · have t4 : (e7 != 0) = true := by simpa using he7
                  rw [if_pos he7] at hrs
                  have HRs := Lib.hid hrs
                  clear hrs
                  go_wp2_with fail
                  go_quiet (fail)
                  go_wp2_with fail
                  go_ret2
                  exact rresume_none HRs.out (K7.out.drewN _)
        · have t0 : (e6 != 0) = true := by simpa using he6
          rw [if_pos he6] at hrs
          have HRs := Lib.hid hrs
          clear hrs
          go_wp2_with fail
          go_quiet (fail)
          go_wp2_with fail
          go_ret2
          exact rresume_none HRs.out (K6.out.drewN _)
    · rw [if_pos hm] at hM
      have HMx := Lib.hid hM
      have HNo := Lib.hid (decide_eq_false hm)
      clear hM hm
      refine (may_lit a' b' n' false _ HNo.out).mono ?_
      rintro e w5 ⟨rfl, rfl⟩
      go_wp2_with fail
      go_ret2
      exact rresume_none HMx.out k4.out
  · have t0 : (ec != 0) = true := by simpa using he
    have hM := HM.out
    rw [if_pos he] at hM
    have HMx := Lib.hid hM
    clear HM hM
    go_wp2_with fail
    go_quiet (fail)
    go_wp2_with fail
    go_ret2
    exact rresume_none HMx.out (k4.out.drewN _)
end Go.Proofs.Ytffcambjdlkfbaa
