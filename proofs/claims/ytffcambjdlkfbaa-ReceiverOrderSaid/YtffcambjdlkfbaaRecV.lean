/- The walk of the law ReceiverPlays where session, epoch and total may be. -/
import Derived.Test.YtffcambjdlkfbaaRecU
import Derived.Deep.CutBlock
namespace Go.Proofs.Ytffcambjdlkfbaa
open Go.RowKit

theorem Pair.c2n {w0 w : World} {β : PBlk} {n t : Nat} {r : Rcv} (h : Pair w0 β n t r w) : w.cell? ⟨β.rb, 2, none⟩ = some (.slice (some ⟨β.gi, 0, none⟩) n β.ci) := by
  rw [← h.len]; exact h.q.c2

theorem Pair.r1c2 {w0 w w1 : World} {β : PBlk} {n t : Nat} {r : Rcv} (h : Pair w0 β n t r w) (k1 : Keeps [β.m, β.g, β.k] w w1) : w1.cell? ⟨β.rb, 2, none⟩ = some (.slice (some ⟨β.gi, 0, none⟩) n β.ci) := by
  rw [← h.len]; exact (h.r1 k1).c2

theorem s14 {w : World} {fb rb : Nat} {f : Frm} {X : Value} (h : FrmAt w fb f) (hq : w.cell? ⟨rb, 2, none⟩ = some X) :
    w.cell? ⟨fb, 0, none⟩ = some (.int .i64 f.fk) ∧ w.cell? ⟨fb, 1, none⟩ = some (.int .i64 f.ses) ∧ w.cell? ⟨fb, 2, none⟩ = some (.int .i64 f.epo) ∧ w.cell? ⟨fb, 3, none⟩ = some (.int .i64 f.idx) ∧ w.cell? ⟨fb, 4, none⟩ = some (.int .i64 f.tot) ∧ w.cell? ⟨fb, 5, none⟩ = some (.string f.s) ∧ w.cell? ⟨rb, 2, none⟩ = some X :=
  ⟨h.f0, h.f1, h.f2, h.f3, h.f4, h.f5, hq⟩

theorem rbase_n (gi ci n : Nat) (l : List Bool) (B : Int) (w : World) (hb : BoolsAt w gi ci l) (hn : l.length = n) (hB : (baseL l : Int) = B) : Calls Try.prog 16 #[.slice (some ⟨gi, 0, none⟩) n ci] w fun e w' => e = .returned (.int .i64 B) ∧ w = w' := by
  subst hn; subst hB; exact rbase_any gi ci l w hb
theorem rcount_n (gi ci n : Nat) (l : List Bool) (B : Int) (w : World) (hb : BoolsAt w gi ci l) (hn : l.length = n) (hB : (countL l : Int) = B) : Calls Try.prog 18 #[.slice (some ⟨gi, 0, none⟩) n ci] w fun e w' => e = .returned (.int .i64 B) ∧ w = w' := by
  subst hn; subst hB; exact rcount_any gi ci l w hb

section
variable {w0 w' : World} {β : PBlk} {n t : Nat} {r : Rcv} (h : w'.cell? ⟨β.rb, 2, none⟩ = some (.slice (some ⟨β.gi, 0, none⟩) n β.ci) ∧ Pair w0 β n t r w')
include h
theorem cur25 (Z : ByteArray) (hZ : mkB (cursorL r) = Z) : Calls Try.prog 44 #[ptr β.b] w' fun e w'' => e = .returned (.string Z) ∧ (w''.cell? ⟨β.rb, 2, none⟩ = some (.slice (some ⟨β.gi, 0, none⟩) n β.ci) ∧ Pair w0 β n t r w'') := by
  subst hZ
  exact (cursor44 _ _ _ _ _ _ r w' h.2.p h.2.good).mono fun _ _ ⟨h1, hk⟩ => ⟨h1, (h.2.keeps hk).c2n, h.2.keeps hk⟩
theorem rcur25 (Z : ByteArray) (hZ : mkB (cursorL r) = Z) : Calls Try.prog 56 #[ptr β.rb] w' fun e w'' => e = .returned (.string Z) ∧ (w''.cell? ⟨β.rb, 2, none⟩ = some (.slice (some ⟨β.gi, 0, none⟩) n β.ci) ∧ Pair w0 β n t r w'') := by
  subst hZ
  exact (cursor56 _ _ _ _ _ _ _ _ r w' h.2.q h.2.good).mono fun _ _ ⟨h1, hk⟩ => ⟨h1, (h.2.keeps hk).c2n, h.2.keeps hk⟩
theorem rcount25 (C : Int) (hC : (countL r.l : Int) = C) : Calls Try.prog 18 #[.slice (some ⟨β.gi, 0, none⟩) n β.ci] w' fun e w'' => e = .returned (.int .i64 C) ∧ w' = w'' := rcount_n _ _ n r.l C w' h.2.q.bools h.2.len hC
theorem there25 : Calls Try.prog 57 #[ptr β.b] w' fun e w'' => ∃ m, e = .returned (ptr m) ∧ MapAt w'' m r.l ∧ (w''.cell? ⟨β.rb, 2, none⟩ = some (.slice (some ⟨β.gi, 0, none⟩) n β.ci) ∧ Pair w0 β n t r w'') :=
  (there57 _ _ _ _ _ _ r w' h.2.p).mono fun _ _ ⟨h1, hm, hk, _⟩ => ⟨_, h1, hm, (h.2.keeps hk).c2n, h.2.keeps hk⟩
end

set_option maxRecDepth 100000 in
set_option linter.unusedSimpArgs false in
set_option maxHeartbeats 16000000 in
theorem plays_may (ses epo n : Nat) (hs : ses < 4294967296) (he : epo < 4294967296) (hn1 : 1 ≤ n) (hn2 : n ≤ 256) (a : Option Addr) (cap' : Nat) (fs : List Frm) (w : World) (hl : fs.length ≤ 200) (hlc : fs.length ≤ cap') (hcm : cap' ≤ 9223372036854775807) (hfs : IsFrms w a fs) :
    Calls Try.prog 6 #[.int .i64 ses, .int .i64 epo, .int .i64 n, .slice a fs.length cap'] w (AwakePost w) := by
  have HFs := Lib.hid hfs; clear hfs
  go_enter Try.func6, Try.ntmps6
  go_wp2_with fail
  refine (awake14 _).mono ?_
  rintro e w1 ⟨rfl, k1⟩
  have k1 := Lib.hid k1
  go_wp2_with fail
  refine (new47_yes ses epo n _ hn1 hn2 hs he).mono ?_
  rintro e w2 ⟨b, m, g, cap, k, rfl, p2, n2, k2⟩
  have k2 := Lib.hid k2
  have p2 := Lib.hid p2
  have n2 := Lib.hid n2
  rename_i k20 p20 n20
  clear k20 p20 n20
  go_wp2_with fail
  refine (may_lit ses epo n true _ (decide_eq_true (by unfold May14; omega))).mono ?_
  rintro e w3 ⟨rfl, rfl⟩
  go_wp2_with fail
  refine (new49 ses epo n _ hn2).mono ?_
  rintro e w3 ⟨rb, gi, ci, gc, cc, gd, cd, rfl, q3, n3, k3⟩
  have HP := Lib.hid (show Pair w ⟨b, m, g, cap, k, rb, gi, ci, gc, cc, gd, cd⟩ n 0 (newR ses epo n) w3 from by
    have z1 := k1.out.size
    have z2 := k2.out.size
    have hn := n2.out
    obtain ⟨l1, l2, l3, l4⟩ := p2.out.lt
    refine ⟨p2.out.quiet k3, q3, newR_good ses epo n hs he hn1 hn2, by simp [newR], ?_, ?_, ?_, (k1.out.trans k2.out).trans k3⟩
    · intro x hx y hy
      simp only [List.mem_cons, List.not_mem_nil, or_false] at hx hy
      omega
    · dsimp only; omega
    · dsimp only; omega)
  clear q3 n3 k3 p2 n2 k2 k1
  generalize newR ses epo n = r0 at *
  go_wp2_with fail
  go_loopw [58] (fun v wr => ∃ i : Nat, i ≤ fs.length ∧ v = .int .i64 i ∧ ∃ r : Rcv, Pair w ⟨b, m, g, cap, k, rb, gi, ci, gc, cc, gd, cd⟩ n i r wr) (fun v _ => fs.length - (intOf v).toNat)
  case atStart => exact ⟨0, Nat.zero_le _, rfl, r0, HP.out⟩
  case round =>
    obtain ⟨i, hi, rfl, r, hP⟩ := hrel
    have HP := Lib.hid hP; clear hP
    by_cases hlt : i < fs.length
    · rcases HFs.out with hnil | ⟨g', o', rfl, hfs⟩
      · rw [hnil] at hlt; simp at hlt
      · have hc6 := hfs i fs[i] (List.getElem?_eq_getElem hlt)
        generalize fs[i] = f at *
        have e0 := HP.out.k.cell (by simp) (hc6 0 _ rfl)
        have e1 := HP.out.k.cell (by simp) (hc6 1 _ rfl)
        have e2 := HP.out.k.cell (by simp) (hc6 2 _ rfl)
        have e3 := HP.out.k.cell (by simp) (hc6 3 _ rfl)
        have e4 := HP.out.k.cell (by simp) (hc6 4 _ rfl)
        have e5 := HP.out.k.cell (by simp) (hc6 5 _ rfl)
        rw [Nat.add_zero] at e0
        clear hc6 hfs
        by_cases hsz : 2000 < f.s.size
        · have t1 : decide ((2000 : Int) < (f.s.size : Int)) = true := decide_eq_true (by omega)
          clear hsz
          go_wp2_with fail
          go_ret
          exact ⟨rfl, HP.out.k.alloc _⟩
        · have t1 : decide ((2000 : Int) < (f.s.size : Int)) = false := decide_eq_false (by omega)
          clear hsz
          go_upto_region 14 with fail
          have ka := (Keeps.refl [] wr).alloc (frmRow f)
          have fa : FrmAt (wr.alloc (frmRow f)) wr.heap.size f := frm_new wr _ _ _ _ _ _ (Keeps.refl _ _)
          have hP2 := HP.out.keeps ka
          have hne : ∀ x ∈ [b, m, g, k, rb, gi, gc, gd], x ≠ wr.heap.size := fun x hx => Nat.ne_of_lt (HP.out.lts x hx)
          have HNe := Lib.hid hne
          have HP2 := Lib.hid hP2
          have HFr := Lib.hid fa
          clear ka fa hP2 hne e0 e1 e2 e3 e4 e5 HP
          generalize wr.alloc (.cells #[.int .i64 f.fk, .int .i64 f.ses, .int .i64 f.epo, .int .i64 f.idx, .int .i64 f.tot, .string f.s] 54) = W at *
          generalize wr.heap.size = fb at *
          obtain ⟨E, hE⟩ : ∃ E, wrongE r f = E := ⟨_, rfl⟩
          obtain ⟨R, hR⟩ : ∃ R, r.take f = R := ⟨_, rfl⟩
          have hRl : R.l.length = n := by
            rw [← hR, ← HP2.out.len]; unfold Rcv.take; split
            · simp [Rcv.put]
            · rfl
          obtain ⟨B, hB⟩ : ∃ B : Int, (baseL R.l : Int) = B := ⟨_, rfl⟩
          obtain ⟨q, hq⟩ : ∃ q : Bool, (baseL R.l == R.l.length) = q := ⟨_, rfl⟩
          have hBq : (B == (n : Int)) = q := by rw [← hB, ← hq, hRl, Bool.eq_iff_iff]; simp; omega
          have HE := Lib.hid hE
          have HR := Lib.hid hR
          have HB := Lib.hid hB
          have HQ := Lib.hid hq
          have HRl := Lib.hid hRl
          have hS0 := Lib.hid (s14 (HFr.out.keeps (Keeps.refl [] W).drew (by simp)) HP2.out.drew.c2n)
          clear hE hR hB hq hRl
          go_cut [91] (fun v wx => v = .bool false ∧ Pair w ⟨b, m, g, cap, k, rb, gi, ci, gc, cc, gd, cd⟩ n (i + 1) R wx)
          case first =>
            as_aux_lemma =>
              go_region_held3 (fun w' => w'.cell? ⟨fb, 0, none⟩ = some (.int .i64 f.fk) ∧ w'.cell? ⟨fb, 1, none⟩ = some (.int .i64 f.ses) ∧ w'.cell? ⟨fb, 2, none⟩ = some (.int .i64 f.epo) ∧ w'.cell? ⟨fb, 3, none⟩ = some (.int .i64 f.idx) ∧ w'.cell? ⟨fb, 4, none⟩ = some (.int .i64 f.tot) ∧ w'.cell? ⟨fb, 5, none⟩ = some (.string f.s) ∧ w'.cell? ⟨rb, 2, none⟩ = some (.slice (some ⟨gi, 0, none⟩) n ci))
                (first | with_reducible exact hSe.out | with_reducible exact hSd.out | with_reducible exact hSc.out | with_reducible exact hSb.out | with_reducible exact hSa.out | with_reducible exact hS0.out)
                (first
                  | (go_at_call 50; refine (take50 b m g cap k i r f _ HP2.out.drew.p (by omega) E R HE.out HR.out).mono ?_; rintro e w1 ⟨rfl, p1, kk1⟩; have y1 := HP2.out.drew.r1 kk1; have hSa := Lib.hid (s14 ((HFr.out.keeps (Keeps.refl [] W).drew (by simp)).keeps kk1 (by have := HNe.out; simp at this; simp; omega)) (HP2.out.drew.r1c2 kk1)); have P1 := Lib.hid p1; have Y1 := Lib.hid y1; have KK1 := Lib.hid kk1; clear p1 y1 kk1)
                  | (go_at_call 51; refine (take51 rb gi ci gc cc gd cd i r f _ Y1.out (by omega) E R HE.out HR.out).mono ?_; rintro e w2 ⟨rfl, q2, kk2⟩; have P2 := Lib.hid (show Pair w ⟨b, m, g, cap, k, rb, gi, ci, gc, cc, gd, cd⟩ n (i + 1) R w2 from (by have h := HP2.out.drew.took (by rw [HR.out]; exact P1.out) KK1.out (by rw [HR.out]; exact q2) kk2; rw [HR.out] at h; exact h)); have hSb := Lib.hid (s14 (((HFr.out.keeps (Keeps.refl [] W).drew (by simp)).keeps KK1.out (by have := HNe.out; simp at this; simp; omega)).keeps kk2 (by have := HNe.out; simp at this; simp; omega)) P2.out.c2n); have HFb := Lib.hid (((HFr.out.keeps (Keeps.refl [] W).drew (by simp)).keeps KK1.out (by have := HNe.out; simp at this; simp; omega)).keeps kk2 (by have := HNe.out; simp at this; simp; omega)); clear q2 kk2)
                  | (go_at_call 45; refine (ack45 b m g cap k _ R _ P2.out.p).mono ?_; unfold ackV; rintro e w3 ⟨rfl, kk3⟩; have P3 := Lib.hid (P2.out.keeps kk3); have HFc := Lib.hid (HFb.out.keeps kk3 (by simp)); have hSc := Lib.hid (s14 HFc.out P3.out.c2n); clear kk3)
                  | (go_at_call 46; refine (ack46 rb gi ci gc cc gd cd _ R _ P3.out.q (by rw [HRl.out]; omega)).mono ?_; unfold ackV; rintro e w4 ⟨rfl, kk4⟩; have P4 := Lib.hid (P3.out.keeps kk4); have HFd := Lib.hid (HFc.out.keeps kk4 (by simp)); have hSd := Lib.hid (s14 HFd.out P4.out.c2n); clear kk4)
                  | (go_at_call 52; refine (done52 b m g cap k _ R _ P4.out.p q HQ.out).mono ?_; rintro e w5 ⟨rfl, kk5⟩; have P5 := Lib.hid (P4.out.keeps kk5); have HFe := Lib.hid (HFd.out.keeps kk5 (by simp)); have hSe := Lib.hid (s14 HFe.out P5.out.c2n); clear kk5)
                  | (go_at_call 16; refine (rbase_n gi ci n R.l B _ P5.out.q.bools HRl.out HB.out).mono ?_; rintro e w6 ⟨rfl, rfl⟩))
              go_wp2_with fail
              go_meet
              exact ⟨rfl, P5.out⟩
          case rest =>
            obtain ⟨rfl, hP3⟩ := hcut
            have HP3 := Lib.hid hP3
            clear hP3 hS0
            go_wp2_with fail
            go_roundw
            case rel => exact ⟨i + 1, by omega, by go_num, R, HP3.out⟩
            case measure => simp [intOf]; omega
    · obtain rfl : i = fs.length := by omega
      have c4 := HP.out.q.c4
      go_wp2_with fail
      go_loopw [98] (fun v wr => ∃ j : Nat, j ≤ 20 ∧ v = .int .i64 j ∧ Pair w ⟨b, m, g, cap, k, rb, gi, ci, gc, cc, gd, cd⟩ n fs.length r wr) (fun v _ => 20 - (intOf v).toNat)
      case atStart => exact ⟨0, Nat.zero_le _, rfl, HP.out⟩
      case round =>
        obtain ⟨j, hj, rfl, hP⟩ := hrel
        have HP4 := Lib.hid hP; clear hP
        by_cases hjl : j < 20
        · obtain ⟨x, hx⟩ : ∃ x, r.d.getD j 0 = x := ⟨_, rfl⟩
          have cn := HP4.out.q.nums.cell j (by rw [HP4.out.q.dlen]; exact hjl)
          rw [hx] at cn
          have HX := Lib.hid hx
          have hj2 : (j : Int) < 20 := by omega
          clear hx
          go_wp2_with fail
          refine (drops53 b m g cap k _ r _ HP4.out.p j hjl x HX.out).mono ?_
          rintro e w6 ⟨rfl, rfl⟩
          go_wp2_with fail
          go_roundw
          case rel => exact ⟨j + 1, by omega, by go_num, HP4.out⟩
          case measure => simp [intOf]; omega
        · obtain rfl : j = 20 := by omega
          obtain ⟨D, hD⟩ : ∃ D, dataS r = D := ⟨_, rfl⟩
          obtain ⟨Z, hZ⟩ : ∃ Z, mkB (cursorL r) = Z := ⟨_, rfl⟩
          obtain ⟨C, hC⟩ : ∃ C : Int, (countL r.l : Int) = C := ⟨_, rfl⟩
          have HD := Lib.hid hD
          have HZ := Lib.hid hZ
          have HC := Lib.hid hC
          clear hD hZ hC
          cases hq : (baseL r.l == r.l.length) with
          | true =>
            have HQ := Lib.hid hq
            clear hq
            go_wp2_with fail
            refine (data54 b m g cap k _ r _ HP4.out.p HP4.out.good D 0 HD.out (by rw [HQ.out]; rfl)).mono ?_
            rintro e w6 ⟨rfl, k6⟩
            have P6 := Lib.hid (HP4.out.keeps k6)
            clear k6
            go_wp2_with fail
            refine (data55 rb gi ci gc cc gd cd _ r _ P6.out.q P6.out.good D true HD.out HQ.out).mono ?_
            rintro e w7 ⟨rfl, rfl⟩
            have hS1 := Lib.hid (And.intro P6.out.drew.c2n P6.out.drew)
            go_wp2_with fail
            refine wp_region_noPanic ?_
            refine wp_region_held_drew (S := fun w' => w'.cell? ⟨rb, 2, none⟩ = some (.slice (some ⟨gi, 0, none⟩) n ci) ∧ Pair w ⟨b, m, g, cap, k, rb, gi, ci, gc, cc, gd, cd⟩ n fs.length r w') (by kernel_rfl) hS1.out (fun hHeld => ?_)
            refine wpAnyH_take (i := 0) (v := .string D) rfl (by kernel_rfl) (by kernel_rfl) (by kernel_rfl) (fun _ _ _ h => h) (Or.inl ⟨by rfl, ?_⟩) hHeld ?_
            · (intro w hSw; (try dsimp only at hSw); go_simp)
            try simp only [Act.put, List.getElem_toArray, List.getElem_cons_zero, List.getElem_cons_succ, List.setIfInBounds_toArray, List.set_cons_zero, List.set_cons_succ]
            refine wpAnyH_take (i := 1) (v := .string D) rfl (by kernel_rfl) (by kernel_rfl) (by kernel_rfl) (fun _ _ _ h => h) (Or.inl ⟨by rfl, ?_⟩) hHeld ?_
            · (intro w hSw; (try dsimp only at hSw); go_simp)
            try simp only [Act.put, List.getElem_toArray, List.getElem_cons_zero, List.getElem_cons_succ, List.setIfInBounds_toArray, List.set_cons_zero, List.set_cons_succ]
            refine wpAnyH_take (i := 2) (v := .bool true) rfl (by kernel_rfl) (by kernel_rfl) (by kernel_rfl) (fun _ _ _ h => h) (Or.inl ⟨by rfl, ?_⟩) hHeld ?_
            · (intro w hSw; (try dsimp only at hSw); go_simp)
            try simp only [Act.put, List.getElem_toArray, List.getElem_cons_zero, List.getElem_cons_succ, List.setIfInBounds_toArray, List.set_cons_zero, List.set_cons_succ]
            refine wpAnyH_take (i := 3) (v := .bool true) rfl (by kernel_rfl) (by kernel_rfl) (by kernel_rfl) (fun _ _ _ h => h) (Or.inl ⟨by rfl, ?_⟩) hHeld ?_
            · (intro w hSw; (try dsimp only at hSw); go_simp)
            try simp only [Act.put, List.getElem_toArray, List.getElem_cons_zero, List.getElem_cons_succ, List.setIfInBounds_toArray, List.set_cons_zero, List.set_cons_succ]
            refine wpAnyH_take (i := 4) (v := .int .i64 0) rfl (by kernel_rfl) (by kernel_rfl) (by kernel_rfl) (fun _ _ _ h => h) (Or.inl ⟨by rfl, ?_⟩) hHeld ?_
            · (intro w hSw; (try dsimp only at hSw); go_simp)
            try simp only [Act.put, List.getElem_toArray, List.getElem_cons_zero, List.getElem_cons_succ, List.setIfInBounds_toArray, List.set_cons_zero, List.set_cons_succ]
            refine wpAnyH_take (i := 5) (v := .bool true) rfl (by kernel_rfl) (by kernel_rfl) (by kernel_rfl) (fun _ _ _ h => h) (Or.inl ⟨by rfl, ?_⟩) hHeld ?_
            · (intro w hSw; (try dsimp only at hSw); go_simp)
            try simp only [Act.put, List.getElem_toArray, List.getElem_cons_zero, List.getElem_cons_succ, List.setIfInBounds_toArray, List.set_cons_zero, List.set_cons_succ]
            refine wpAnyH_take (i := 6) (v := .bool true) rfl (by kernel_rfl) (by kernel_rfl) (by kernel_rfl) (fun _ _ _ h => h) (Or.inl ⟨by rfl, ?_⟩) hHeld ?_
            · (intro w hSw; (try dsimp only at hSw); go_simp)
            try simp only [Act.put, List.getElem_toArray, List.getElem_cons_zero, List.getElem_cons_succ, List.setIfInBounds_toArray, List.set_cons_zero, List.set_cons_succ]
            refine wpAnyH_take (i := 7) (v := .bool true) rfl (by kernel_rfl) (by kernel_rfl) (by kernel_rfl) (fun _ _ _ h => h) (Or.inl ⟨by rfl, ?_⟩) hHeld ?_
            · (intro w hSw; (try dsimp only at hSw); go_simp)
            try simp only [Act.put, List.getElem_toArray, List.getElem_cons_zero, List.getElem_cons_succ, List.setIfInBounds_toArray, List.set_cons_zero, List.set_cons_succ]
            refine wpAnyH_take (i := 8) (v := .bool true) rfl (by kernel_rfl) (by kernel_rfl) (by kernel_rfl) (fun _ _ _ h => h) (Or.inl ⟨by rfl, ?_⟩) hHeld ?_
            · (intro w hSw; (try dsimp only at hSw); go_simp)
            try simp only [Act.put, List.getElem_toArray, List.getElem_cons_zero, List.getElem_cons_succ, List.setIfInBounds_toArray, List.set_cons_zero, List.set_cons_succ]
            refine wpAnyH_take (i := 9) (v := .bool true) rfl (by kernel_rfl) (by kernel_rfl) (by kernel_rfl) (fun _ _ _ h => h) (Or.inl ⟨by rfl, ?_⟩) hHeld ?_
            · (intro w hSw; (try dsimp only at hSw); go_simp)
            try simp only [Act.put, List.getElem_toArray, List.getElem_cons_zero, List.getElem_cons_succ, List.setIfInBounds_toArray, List.set_cons_zero, List.set_cons_succ]
            refine wpAnyH_take (i := 10) (v := .bool true) rfl (by kernel_rfl) (by kernel_rfl) (by kernel_rfl) (fun _ _ _ h => h) (Or.inl ⟨by rfl, ?_⟩) hHeld ?_
            · (intro w hSw; (try dsimp only at hSw); go_simp)
            try simp only [Act.put, List.getElem_toArray, List.getElem_cons_zero, List.getElem_cons_succ, List.setIfInBounds_toArray, List.set_cons_zero, List.set_cons_succ]
            refine wpAnyH_take (i := 11) (v := .bool true) rfl (by kernel_rfl) (by kernel_rfl) (by kernel_rfl) (fun _ _ _ h => h) (Or.inl ⟨by rfl, ?_⟩) hHeld ?_
            · (intro w hSw; (try dsimp only at hSw); go_simp)
            try simp only [Act.put, List.getElem_toArray, List.getElem_cons_zero, List.getElem_cons_succ, List.setIfInBounds_toArray, List.set_cons_zero, List.set_cons_succ]
            refine wpAnyH_take (i := 12) (v := undef) rfl (by kernel_rfl) (by kernel_rfl) (by kernel_rfl) (fun _ _ _ h => h) (Or.inr ⟨by rfl, rfl⟩) hHeld ?_
            try simp only [Act.put, List.getElem_toArray, List.getElem_cons_zero, List.getElem_cons_succ, List.setIfInBounds_toArray, List.set_cons_zero, List.set_cons_succ]
            refine wpAnyH_take (i := 13) (v := undef) rfl (by kernel_rfl) (by kernel_rfl) (by kernel_rfl) (fun _ _ _ h => h) (Or.inr ⟨by rfl, rfl⟩) hHeld ?_
            try simp only [Act.put, List.getElem_toArray, List.getElem_cons_zero, List.getElem_cons_succ, List.setIfInBounds_toArray, List.set_cons_zero, List.set_cons_succ]
            refine wpAnyH_take (i := 14) (v := .bool true) rfl (by kernel_rfl) (by kernel_rfl) (by kernel_rfl) (fun _ _ _ h => h) (Or.inl ⟨by rfl, ?_⟩) hHeld ?_
            · (intro w hSw; (try dsimp only at hSw); go_simp)
            try simp only [Act.put, List.getElem_toArray, List.getElem_cons_zero, List.getElem_cons_succ, List.setIfInBounds_toArray, List.set_cons_zero, List.set_cons_succ]
            refine wpAnyH_take (i := 15) (v := .bool true) rfl (by kernel_rfl) (by kernel_rfl) (by kernel_rfl) (fun _ _ _ h => h) (Or.inl ⟨by rfl, ?_⟩) hHeld ?_
            · (intro w hSw; (try dsimp only at hSw); go_simp)
            try simp only [Act.put, List.getElem_toArray, List.getElem_cons_zero, List.getElem_cons_succ, List.setIfInBounds_toArray, List.set_cons_zero, List.set_cons_succ]
            refine wpAnyH_take (i := 16) (v := .bool true) rfl (by kernel_rfl) (by kernel_rfl) (by kernel_rfl) (fun _ _ _ h => h) (Or.inl ⟨by rfl, ?_⟩) hHeld ?_
            · (intro w hSw; (try dsimp only at hSw); go_simp)
            try simp only [Act.put, List.getElem_toArray, List.getElem_cons_zero, List.getElem_cons_succ, List.setIfInBounds_toArray, List.set_cons_zero, List.set_cons_succ]
            refine wpAnyH_take (i := 17) (v := ptr b) rfl (by kernel_rfl) (by kernel_rfl) (by kernel_rfl) (fun _ _ _ h => h) (Or.inl ⟨by rfl, ?_⟩) hHeld ?_
            · (intro w hSw; (try dsimp only at hSw); go_simp)
            try simp only [Act.put, List.getElem_toArray, List.getElem_cons_zero, List.getElem_cons_succ, List.setIfInBounds_toArray, List.set_cons_zero, List.set_cons_succ]
            refine wpAnyH_take (i := 19) (v := ptr rb) rfl (by kernel_rfl) (by kernel_rfl) (by kernel_rfl) (fun _ _ _ h => h) (Or.inl ⟨by rfl, ?_⟩) hHeld ?_
            · (intro w hSw; (try dsimp only at hSw); go_simp)
            try simp only [Act.put, List.getElem_toArray, List.getElem_cons_zero, List.getElem_cons_succ, List.setIfInBounds_toArray, List.set_cons_zero, List.set_cons_succ]
            refine wpAnyH_ready (rs := [18]) (by kernel_rfl) (by simp) ?_
            refine AllReadyH.cons rfl (fun K hK => ?_) AllReadyH.nil
            go_simp
            (go_at_call 44; refine (cur25 (β := ⟨b, m, g, cap, k, rb, gi, ci, gc, cc, gd, cd⟩) hHeld Z HZ.out).mono ?_; rintro e wn18 ⟨rfl, hS⟩)
            refine hK.out _ _ hS (fun hHeld => ?_)
            clear hK K
            try simp only [Act.put, List.getElem_toArray, List.getElem_cons_zero, List.getElem_cons_succ, List.setIfInBounds_toArray, List.set_cons_zero, List.set_cons_succ]
            refine wpAnyH_ready (rs := [20]) (by kernel_rfl) (by simp) ?_
            refine AllReadyH.cons rfl (fun K hK => ?_) AllReadyH.nil
            go_simp
            (go_at_call 56; refine (rcur25 (β := ⟨b, m, g, cap, k, rb, gi, ci, gc, cc, gd, cd⟩) hHeld Z HZ.out).mono ?_; rintro e wn20 ⟨rfl, hS⟩)
            refine hK.out _ _ hS (fun hHeld => ?_)
            clear hK K
            try simp only [Act.put, List.getElem_toArray, List.getElem_cons_zero, List.getElem_cons_succ, List.setIfInBounds_toArray, List.set_cons_zero, List.set_cons_succ]
            refine wpAnyH_take (i := 21) (v := .bool true) rfl (by kernel_rfl) (by kernel_rfl) (by kernel_rfl) (fun _ _ _ h => h) (Or.inl ⟨by rfl, ?_⟩) hHeld ?_
            · (intro w hSw; (try dsimp only at hSw); go_simp)
            try simp only [Act.put, List.getElem_toArray, List.getElem_cons_zero, List.getElem_cons_succ, List.setIfInBounds_toArray, List.set_cons_zero, List.set_cons_succ]
            refine wpAnyH_take (i := 22) (v := .bool true) rfl (by kernel_rfl) (by kernel_rfl) (by kernel_rfl) (fun _ _ _ h => h) (Or.inl ⟨by rfl, ?_⟩) hHeld ?_
            · (intro w hSw; (try dsimp only at hSw); go_simp)
            try simp only [Act.put, List.getElem_toArray, List.getElem_cons_zero, List.getElem_cons_succ, List.setIfInBounds_toArray, List.set_cons_zero, List.set_cons_succ]
            refine wpAnyH_take (i := 23) (v := .bool true) rfl (by kernel_rfl) (by kernel_rfl) (by kernel_rfl) (fun _ _ _ h => h) (Or.inl ⟨by rfl, ?_⟩) hHeld ?_
            · (intro w hSw; (try dsimp only at hSw); go_simp)
            try simp only [Act.put, List.getElem_toArray, List.getElem_cons_zero, List.getElem_cons_succ, List.setIfInBounds_toArray, List.set_cons_zero, List.set_cons_succ]
            refine wpAnyH_take (i := 24) (v := ptr b) rfl (by kernel_rfl) (by kernel_rfl) (by kernel_rfl) (fun _ _ _ h => h) (Or.inl ⟨by rfl, ?_⟩) hHeld ?_
            · (intro w hSw; (try dsimp only at hSw); go_simp)
            try simp only [Act.put, List.getElem_toArray, List.getElem_cons_zero, List.getElem_cons_succ, List.setIfInBounds_toArray, List.set_cons_zero, List.set_cons_succ]
            refine wpAnyH_take (i := 27) (v := ptr rb) rfl (by kernel_rfl) (by kernel_rfl) (by kernel_rfl) (fun _ _ _ h => h) (Or.inl ⟨by rfl, ?_⟩) hHeld ?_
            · (intro w hSw; (try dsimp only at hSw); go_simp)
            try simp only [Act.put, List.getElem_toArray, List.getElem_cons_zero, List.getElem_cons_succ, List.setIfInBounds_toArray, List.set_cons_zero, List.set_cons_succ]
            refine wpAnyH_take (i := 28) (v := ptr rb) rfl (by kernel_rfl) (by kernel_rfl) (by kernel_rfl) (fun _ _ _ h => h) (Or.inl ⟨by rfl, ?_⟩) hHeld ?_
            · (intro w hSw; (try dsimp only at hSw); go_simp)
            try simp only [Act.put, List.getElem_toArray, List.getElem_cons_zero, List.getElem_cons_succ, List.setIfInBounds_toArray, List.set_cons_zero, List.set_cons_succ]
            refine wpAnyH_take (i := 29) (v := .pointer (some ⟨rb, 2, none⟩)) rfl (by kernel_rfl) (by kernel_rfl) (by kernel_rfl) (fun _ _ _ h => h) (Or.inl ⟨by rfl, ?_⟩) hHeld ?_
            · (intro w hSw; (try dsimp only at hSw); go_simp)
            try simp only [Act.put, List.getElem_toArray, List.getElem_cons_zero, List.getElem_cons_succ, List.setIfInBounds_toArray, List.set_cons_zero, List.set_cons_succ]
            refine wpAnyH_take (i := 30) (v := .slice (some ⟨gi, 0, none⟩) n ci) rfl (by kernel_rfl) (by kernel_rfl) (by kernel_rfl) (fun _ _ _ h => h) (Or.inl ⟨by rfl, ?_⟩) hHeld ?_
            · (intro w hSw; (try dsimp only at hSw); go_simp)
            try simp only [Act.put, List.getElem_toArray, List.getElem_cons_zero, List.getElem_cons_succ, List.setIfInBounds_toArray, List.set_cons_zero, List.set_cons_succ]
            refine wpAnyH_ready (rs := [25]) (by kernel_rfl) (by simp) ?_
            refine AllReadyH.cons rfl (fun K hK => ?_) AllReadyH.nil
            go_simp
            (go_at_call 57; refine (there25 (β := ⟨b, m, g, cap, k, rb, gi, ci, gc, cc, gd, cd⟩) hHeld).mono ?_; rintro e wn25 ⟨mm, rfl, hm, hS⟩)
            refine hK.out _ _ hS (fun hHeld => ?_)
            clear hK K
            try simp only [Act.put, List.getElem_toArray, List.getElem_cons_zero, List.getElem_cons_succ, List.setIfInBounds_toArray, List.set_cons_zero, List.set_cons_succ]
            refine wpAnyH_ready (rs := [26]) (by kernel_rfl) (by simp) ?_
            refine AllReadyH.cons rfl (fun K hK => ?_) AllReadyH.nil
            go_simp
            (go_at_call 17; refine (count_lit _ r.l C _ hm HC.out).mono ?_; rintro e wn26 ⟨rfl, rfl⟩)
            refine hK.out _ _ hHeld (fun hHeld => ?_)
            clear hK K
            try simp only [Act.put, List.getElem_toArray, List.getElem_cons_zero, List.getElem_cons_succ, List.setIfInBounds_toArray, List.set_cons_zero, List.set_cons_succ]
            refine wpAnyH_ready (rs := [31]) (by kernel_rfl) (by simp) ?_
            refine AllReadyH.cons rfl (fun K hK => ?_) AllReadyH.nil
            go_simp
            (go_at_call 18; refine (rcount25 (β := ⟨b, m, g, cap, k, rb, gi, ci, gc, cc, gd, cd⟩) hHeld C HC.out).mono ?_; rintro e wn31 ⟨rfl, rfl⟩)
            refine hK.out _ _ hHeld (fun hHeld => ?_)
            clear hK K
            try simp only [Act.put, List.getElem_toArray, List.getElem_cons_zero, List.getElem_cons_succ, List.setIfInBounds_toArray, List.set_cons_zero, List.set_cons_succ]
            refine wpAnyH_take (i := 32) (v := .bool true) rfl (by kernel_rfl) (by kernel_rfl) (by kernel_rfl) (fun _ _ _ h => h) (Or.inl ⟨by rfl, ?_⟩) hHeld ?_
            · (intro w hSw; (try dsimp only at hSw); go_simp)
            try simp only [Act.put, List.getElem_toArray, List.getElem_cons_zero, List.getElem_cons_succ, List.setIfInBounds_toArray, List.set_cons_zero, List.set_cons_succ]
            refine wpAnyH_take (i := 33) (v := .bool true) rfl (by kernel_rfl) (by kernel_rfl) (by kernel_rfl) (fun _ _ _ h => h) (Or.inl ⟨by rfl, ?_⟩) hHeld ?_
            · (intro w hSw; (try dsimp only at hSw); go_simp)
            try simp only [Act.put, List.getElem_toArray, List.getElem_cons_zero, List.getElem_cons_succ, List.setIfInBounds_toArray, List.set_cons_zero, List.set_cons_succ]
            refine wpAnyH_take (i := 34) (v := .bool true) rfl (by kernel_rfl) (by kernel_rfl) (by kernel_rfl) (fun _ _ _ h => h) (Or.inl ⟨by rfl, ?_⟩) hHeld ?_
            · (intro w hSw; (try dsimp only at hSw); go_simp)
            try simp only [Act.put, List.getElem_toArray, List.getElem_cons_zero, List.getElem_cons_succ, List.setIfInBounds_toArray, List.set_cons_zero, List.set_cons_succ]
            refine wpAnyH_done (by kernel_rfl) ?_ _
            refine NoPanic.normal ?_
            have hk := hHeld.2.k
            go_wp2_with fail
            go_ret
            exact ⟨rfl, hk⟩
          | false =>
            have HQ := Lib.hid hq
            clear hq
            go_wp2_with fail
            refine (data54 b m g cap k _ r _ HP4.out.p HP4.out.good D 11 HD.out (by rw [HQ.out]; rfl)).mono ?_
            rintro e w6 ⟨rfl, k6⟩
            have P6 := Lib.hid (HP4.out.keeps k6)
            clear k6
            go_wp2_with fail
            refine (data55 rb gi ci gc cc gd cd _ r _ P6.out.q P6.out.good D false HD.out HQ.out).mono ?_
            rintro e w7 ⟨rfl, rfl⟩
            have hS1 := Lib.hid (And.intro P6.out.drew.c2n P6.out.drew)
            go_wp2_with fail
            go_region_held3 (fun w' => w'.cell? ⟨rb, 2, none⟩ = some (.slice (some ⟨gi, 0, none⟩) n ci) ∧ Pair w ⟨b, m, g, cap, k, rb, gi, ci, gc, cc, gd, cd⟩ n fs.length r w')
              (first | with_reducible assumption | with_reducible exact hS1.out)
              (first
                | (go_at_call 44; refine (cur25 (β := ⟨b, m, g, cap, k, rb, gi, ci, gc, cc, gd, cd⟩) (by first | with_reducible assumption | with_reducible exact hS1.out) Z HZ.out).mono ?_; rintro e w' ⟨rfl, hS⟩)
                | (go_at_call 56; refine (rcur25 (β := ⟨b, m, g, cap, k, rb, gi, ci, gc, cc, gd, cd⟩) (by first | with_reducible assumption | with_reducible exact hS1.out) Z HZ.out).mono ?_; rintro e w' ⟨rfl, hS⟩)
                | (go_at_call 57; refine (there25 (β := ⟨b, m, g, cap, k, rb, gi, ci, gc, cc, gd, cd⟩) (by first | with_reducible assumption | with_reducible exact hS1.out)).mono ?_; rintro e w' ⟨mm, rfl, hm, hS⟩)
                | (go_at_call 17; refine (count_lit _ r.l C _ (by assumption) HC.out).mono ?_; rintro e w' ⟨rfl, rfl⟩)
                | (go_at_call 18; refine (rcount25 (β := ⟨b, m, g, cap, k, rb, gi, ci, gc, cc, gd, cd⟩) (by first | with_reducible assumption | with_reducible exact hS1.out) C HC.out).mono ?_; rintro e w' ⟨rfl, rfl⟩))
            rename_i hlast
            have hk := hlast.2.k
            go_wp2_with fail
            go_ret
            exact ⟨rfl, hk⟩
end Go.Proofs.Ytffcambjdlkfbaa
