/- Contracts of the readers' Text (package varint, and the reference of layer 1), of at most 1000 bytes. -/
import Derived.Test.YtffcambjdlkfbaaVarD
namespace Go.Proofs.Ytffcambjdlkfbaa
open Go.RowKit

/-- What Text takes, what it leaves, what it notes. -/
def textR (s : ByteArray) (e : Int) : ByteArray × ByteArray × Int :=
  let R := uintR 10 0 0 s e
  if R.2.2 ≠ 0 then (ByteArray.empty, R.2.1, R.2.2)
  else if 1000 < R.1 then (ByteArray.empty, R.2.1, 7)
  else (rawV R.2.1 0 R.1, rawS R.2.1 0 R.1, rawE R.2.1 0 R.1)

set_option maxRecDepth 100000 in
theorem text73 (b : Nat) (s : ByteArray) (e : Int) (w : World) (h : RdAt w b 134 s e) (V : ByteArray × ByteArray × Int) (hV : textR s e = V) :
    Calls Try.prog 73 #[ptr b, .int .i64 1000] w fun en w' => en = .returned (.string V.1) ∧ RdAt w' b 134 V.2.1 V.2.2 ∧ Keeps [b] w w' := by
  obtain ⟨R, hR⟩ : ∃ R, uintR 10 0 0 s e = R := ⟨_, rfl⟩
  have HK := Lib.hid (uint69 b s e w h R hR)
  clear h
  unfold textR at hV
  rw [hR] at hV
  obtain ⟨n, s1, e1⟩ := R
  dsimp only at hV
  clear hR
  by_cases he : e1 = 0
  · subst he
    rw [if_neg (by simp)] at hV
    by_cases hn : 1000 < n
    · rw [if_pos hn] at hV
      subst hV
      have t1 : decide ((1000 : Int) < (n : Int)) = true := decide_eq_true (by omega)
      go_enter Try.func73, Try.ntmps73
      go_wp2_with fail
      refine (HK.out).mono ?_
      rintro en w1 ⟨rfl, hr1, hk1⟩
      have c1 := hr1.c1
      have HR1 := Lib.hid hr1
      have HK1 := Lib.hid hk1
      clear hr1 hk1
      go_wp2_with fail
      refine (fail90 b _ 0 7 _ HR1.out).mono ?_
      rintro en w2 ⟨rfl, hr2, hk2⟩
      rw [show failE 0 7 = 7 from rfl] at hr2
      have HR2 := Lib.hid hr2
      have HK2 := Lib.hid hk2
      clear hr2 hk2
      go_wp2_with fail
      go_ret
      exact ⟨rfl, HR2.out, HK1.out.trans HK2.out⟩
    · rw [if_neg hn] at hV
      subst hV
      have t1 : decide ((1000 : Int) < (n : Int)) = false := decide_eq_false (by omega)
      have hn2 : n ≤ 1000 := by omega
      go_enter Try.func73, Try.ntmps73
      go_wp2_with fail
      refine (HK.out).mono ?_
      rintro en w1 ⟨rfl, hr1, hk1⟩
      have c1 := hr1.c1
      have HR1 := Lib.hid hr1
      have HK1 := Lib.hid hk1
      clear hr1 hk1
      go_wp2_with fail
      refine (raw91 b _ 0 n _ HR1.out).mono ?_
      rintro en w2 ⟨rfl, hr2, hk2⟩
      have HR2 := Lib.hid hr2
      have HK2 := Lib.hid hk2
      clear hr2 hk2
      go_wp2_with fail
      go_ret
      exact ⟨rfl, HR2.out, HK1.out.trans HK2.out⟩
  · have hb : (e1 == 0) = false := by simpa using he
    rw [if_pos he] at hV
    subst hV
    clear he
    go_enter Try.func73, Try.ntmps73
    go_wp2_with fail
    refine (HK.out).mono ?_
    rintro en w1 ⟨rfl, hr1, hk1⟩
    have c1 := hr1.c1
    have HR1 := Lib.hid hr1
    have HK1 := Lib.hid hk1
    clear hr1 hk1
    go_wp2_with fail
    go_ret
    exact ⟨rfl, HR1.out, HK1.out⟩

set_option maxRecDepth 100000 in
theorem text76 (b : Nat) (s : ByteArray) (e : Int) (w : World) (h : RdAt w b 116 s e) (V : ByteArray × ByteArray × Int) (hV : textR s e = V) :
    Calls Try.prog 76 #[ptr b, .int .i64 1000] w fun en w' => en = .returned (.string V.1) ∧ RdAt w' b 116 V.2.1 V.2.2 ∧ Keeps [b] w w' := by
  obtain ⟨R, hR⟩ : ∃ R, uintR 10 0 0 s e = R := ⟨_, rfl⟩
  have HK := Lib.hid (uint74 b s e w h R hR)
  clear h
  unfold textR at hV
  rw [hR] at hV
  obtain ⟨n, s1, e1⟩ := R
  dsimp only at hV
  clear hR
  by_cases he : e1 = 0
  · subst he
    rw [if_neg (by simp)] at hV
    by_cases hn : 1000 < n
    · rw [if_pos hn] at hV
      subst hV
      have t1 : decide ((1000 : Int) < (n : Int)) = true := decide_eq_true (by omega)
      go_enter Try.func76, Try.ntmps76
      go_wp2_with fail
      refine (HK.out).mono ?_
      rintro en w1 ⟨rfl, hr1, hk1⟩
      have c1 := hr1.c1
      have HR1 := Lib.hid hr1
      have HK1 := Lib.hid hk1
      clear hr1 hk1
      go_wp2_with fail
      refine (fail93 b _ 0 7 _ HR1.out).mono ?_
      rintro en w2 ⟨rfl, hr2, hk2⟩
      rw [show failE 0 7 = 7 from rfl] at hr2
      have HR2 := Lib.hid hr2
      have HK2 := Lib.hid hk2
      clear hr2 hk2
      go_wp2_with fail
      go_ret
      exact ⟨rfl, HR2.out, HK1.out.trans HK2.out⟩
    · rw [if_neg hn] at hV
      subst hV
      have t1 : decide ((1000 : Int) < (n : Int)) = false := decide_eq_false (by omega)
      have hn2 : n ≤ 1000 := by omega
      go_enter Try.func76, Try.ntmps76
      go_wp2_with fail
      refine (HK.out).mono ?_
      rintro en w1 ⟨rfl, hr1, hk1⟩
      have c1 := hr1.c1
      have HR1 := Lib.hid hr1
      have HK1 := Lib.hid hk1
      clear hr1 hk1
      go_wp2_with fail
      refine (raw94 b _ 0 n _ HR1.out).mono ?_
      rintro en w2 ⟨rfl, hr2, hk2⟩
      have HR2 := Lib.hid hr2
      have HK2 := Lib.hid hk2
      clear hr2 hk2
      go_wp2_with fail
      go_ret
      exact ⟨rfl, HR2.out, HK1.out.trans HK2.out⟩
  · have hb : (e1 == 0) = false := by simpa using he
    rw [if_pos he] at hV
    subst hV
    clear he
    go_enter Try.func76, Try.ntmps76
    go_wp2_with fail
    refine (HK.out).mono ?_
    rintro en w1 ⟨rfl, hr1, hk1⟩
    have c1 := hr1.c1
    have HR1 := Lib.hid hr1
    have HK1 := Lib.hid hk1
    clear hr1 hk1
    go_wp2_with fail
    go_ret
    exact ⟨rfl, HR1.out, HK1.out⟩

end Go.Proofs.Ytffcambjdlkfbaa
