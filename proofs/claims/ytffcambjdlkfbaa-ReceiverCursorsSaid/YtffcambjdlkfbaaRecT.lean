/- The walk of the law ReceiverCursors: true, in whatever memory, of every string. -/
import Derived.Test.YtffcambjdlkfbaaRecS
namespace Go.Proofs.Ytffcambjdlkfbaa
open Go.RowKit

theorem resumeL_tells (k : Nat) : ∀ (s : ByteArray) (last : Int) (n : Nat) (r : Rcv) (o : Option Rcv) (E : Int), last < (n : Int) → n ≤ 256 → 258 ≤ last + 1 + (k : Int) → resumeL k s last n r = (o, E) → (o = none ↔ E ≠ 0) := by
  induction k with
  | zero => intro s last n r o E h1 h2 h3 _; omega
  | succ k ih =>
    intro s last n r o E h1 h2 h3 h
    unfold resumeL at h
    generalize uintR 10 0 0 s 0 = U at h
    split at h
    · injection h with ha hb; subst ha; subst hb; simpa
    · split at h
      · split at h
        · injection h with ha hb; subst ha; subst hb; simp
        · injection h with ha hb; subst ha; subst hb; simp
      · split at h
        · injection h with ha hb; subst ha; subst hb; simp
        · split at h
          · injection h with ha hb; subst ha; subst hb; simp
          · generalize textR U.2.1 0 = V at h
            split at h
            · injection h with ha hb; subst ha; subst hb; simpa
            · exact ih _ _ _ _ _ _ (by omega) h2 (by omega) h

theorem resumeR_tells {s : ByteArray} {o : Option Rcv} {E : Int} (h : resumeR s = (o, E)) : o = none ↔ E ≠ 0 := by
  unfold resumeR at h
  generalize uintR 10 0 0 s 0 = A at h
  dsimp only at h
  generalize uintR 10 0 0 A.2.1 A.2.2 = B at h
  generalize uintR 10 0 0 B.2.1 B.2.2 = C at h
  unfold resumeM at h
  split at h
  · injection h with ha hb; subst ha; subst hb; simpa
  · split at h
    · injection h with ha hb; subst ha; subst hb; simp
    · rename_i hm
      have hm := Decidable.not_not.1 hm
      unfold May14 at hm
      exact resumeL_tells 258 _ _ _ _ _ _ (by omega) (by omega) (by omega) h

set_option maxRecDepth 100000 in
theorem cursors_great (s : ByteArray) (w : World) (h : 2000 < s.size) : Calls Try.prog 5 #[.string s] w (AwakePost w) := by
  have t1 : decide ((2000 : Int) < (s.size : Int)) = true := decide_eq_true (by omega)
  go_enter Try.func5, Try.ntmps5
  go_wp2_with fail
  refine (awake14 _).mono ?_
  rintro e w1 ⟨rfl, k1⟩
  have k1 := Lib.hid k1
  go_wp2_with fail
  refine (awake14 _).mono ?_
  rintro e w2 ⟨rfl, k2⟩
  have k2 := Lib.hid k2
  go_wp2_with fail
  go_ret
  exact ⟨rfl, k1.out.trans k2.out⟩

set_option maxRecDepth 100000 in
theorem cursors_none (s : ByteArray) (w : World) (h : s.size ≤ 2000) (E : Int) (hR : resumeR s = (none, E)) : Calls Try.prog 5 #[.string s] w (AwakePost w) := by
  have t1 : decide ((2000 : Int) < (s.size : Int)) = false := decide_eq_false (by omega)
  have hE := (resumeR_tells hR).1 rfl
  have t2 : (E == 0) = false := by simpa using hE
  have HR := Lib.hid hR
  clear hR
  go_enter Try.func5, Try.ntmps5
  go_wp2_with fail
  refine (awake14 _).mono ?_
  rintro e w1 ⟨rfl, k1⟩
  have k1 := Lib.hid k1
  go_wp2_with fail
  refine (resume42 s _ _ HR.out).mono ?_
  rintro e w2 ⟨rfl, k2⟩
  have k2 := Lib.hid k2
  go_wp2_with fail
  refine (resume43 s _ _ HR.out).mono ?_
  rintro e w3 ⟨rfl, k3⟩
  have k3 := Lib.hid k3
  go_wp2_with fail
  go_ret
  exact ⟨rfl, (k1.out.trans k2.out).trans k3.out⟩

set_option maxRecDepth 100000 in
theorem cursors_some (s : ByteArray) (w : World) (h : s.size ≤ 2000) (r : Rcv) (E : Int) (hR : resumeR s = (some r, E)) : Calls Try.prog 5 #[.string s] w (AwakePost w) := by
  have t1 : decide ((2000 : Int) < (s.size : Int)) = false := decide_eq_false (by omega)
  have hE : E = 0 := by
    apply Decidable.byContradiction; intro hne
    exact absurd ((resumeR_tells hR).2 hne) (by simp)
  subst hE
  have hb := (resumeR_back s r hR).2.2
  have hgd := (resumeR_back s r hR).1
  have HB := Lib.hid hb
  have HG := Lib.hid hgd
  have HR := Lib.hid hR
  clear hR hb hgd
  go_enter Try.func5, Try.ntmps5
  go_wp2_with fail
  refine (awake14 _).mono ?_
  rintro e w1 ⟨rfl, k1⟩
  have k1 := Lib.hid k1
  go_wp2_with fail
  refine (resume42 s _ _ HR.out).mono ?_
  rintro e w2 ⟨_, b, m, g, cap, k, rfl, q2, _, k2⟩
  have Q2 := Lib.hid q2
  have k2 := Lib.hid (k1.out.trans k2)
  clear q2
  go_wp2_with fail
  refine (resume43 s _ _ HR.out).mono ?_
  rintro e w3 ⟨_, b', gi, ci, gc, cc, gd, cd, rfl, y3, _, k3⟩
  have Q3 := Lib.hid (Q2.out.quiet k3)
  have Y3 := Lib.hid y3
  have k3 := Lib.hid (k2.out.trans k3)
  clear y3
  go_wp2_with fail
  refine (cursor44 b m g cap k _ _ _ Q3.out HG.out).mono ?_
  rw [HB.out]
  rintro e w4 ⟨rfl, k4⟩
  have Q4 := Lib.hid (Q3.out.quiet k4)
  have Y4 := Lib.hid (Y3.out.quiet k4)
  have k4 := Lib.hid (k3.out.trans k4)
  go_wp2_with fail
  refine (ack45 b m g cap k _ _ _ Q4.out).mono ?_
  unfold ackV
  rintro e w5 ⟨rfl, k5⟩
  have Y5 := Lib.hid (Y4.out.quiet k5)
  have k5 := Lib.hid (k4.out.trans k5)
  go_wp2_with fail
  refine (ack46 b' gi ci gc cc gd cd _ _ _ Y5.out (Nat.le_trans HG.out.high (by omega))).mono ?_
  unfold ackV
  rintro e w6 ⟨rfl, k6⟩
  have k6 := Lib.hid (k5.out.trans k6)
  go_wp2_with fail
  go_ret
  exact ⟨rfl, k6.out⟩

theorem cursors_any (s : ByteArray) (w : World) : Calls Try.prog 5 #[.string s] w (AwakePost w) := by
  by_cases h : 2000 < s.size
  · exact cursors_great s w h
  · obtain ⟨R, hR⟩ : ∃ R, resumeR s = R := ⟨_, rfl⟩
    obtain ⟨o, E⟩ := R
    cases o with
    | none => exact cursors_none s w (by omega) E hR
    | some r => exact cursors_some s w (by omega) r E hR
end Go.Proofs.Ytffcambjdlkfbaa
