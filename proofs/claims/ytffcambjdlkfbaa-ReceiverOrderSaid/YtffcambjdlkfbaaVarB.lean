/- Contracts of the readers (package varint, and the reference of layer 1): Byte, Err, Done, NewReader. -/
import Derived.Test.YtffcambjdlkfbaaVarA
namespace Go.Proofs.Ytffcambjdlkfbaa
open Go.RowKit

/-- What Byte takes, what it leaves, what it notes. -/
def byteV (s : ByteArray) (e : Int) : Nat := if e ≠ 0 ∨ s.size = 0 then 0 else (s.data.getD 0 0).toNat
def byteS (s : ByteArray) (e : Int) : ByteArray := if e ≠ 0 ∨ s.size = 0 then s else s.extract 1 s.size
def byteE (s : ByteArray) (e : Int) : Int := if e ≠ 0 then e else if s.size = 0 then 3 else 0

theorem ret_u8 {a b : Nat} (h : a = b) : Ending.returned (.int .u8 (a : Int)) = .returned (.int .u8 (b : Int)) := by rw [h]

theorem byte89 (b : Nat) (s : ByteArray) (e : Int) (w : World) (h : RdAt w b 134 s e) : Calls Try.prog 89 #[ptr b] w fun en w' => en = .returned (.int .u8 (byteV s e)) ∧ RdAt w' b 134 (byteS s e) (byteE s e) ∧ Keeps [b] w w' := by
  have HK := Lib.hid (raw91 b s e 1 w h); clear h
  by_cases hz : e ≠ 0 ∨ s.size = 0
  · have HV := Lib.hid (show rawV s e 1 = ByteArray.empty ∧ rawS s e 1 = byteS s e ∧ rawE s e 1 = byteE s e ∧ byteV s e = 0 from by
      by_cases he : e = 0
      · have h0 : s.size = 0 := by simpa [he] using hz
        unfold rawV rawS rawE byteS byteE byteV; simp [he, h0]
      · unfold rawV rawS rawE byteS byteE byteV; simp [he])
    have hem : ByteArray.empty.toList.isEmpty = true := by rw [ByteArray.toList_eq]; rfl
    clear hz
    go_enter Try.func89, Try.ntmps89
    go_wp2_with fail
    refine (HK.out).mono ?_
    rw [HV.out.1, HV.out.2.1, HV.out.2.2.1]
    rintro en w' ⟨rfl, hr, hk⟩
    have hr := Lib.hid hr
    have hk := Lib.hid hk
    have HB := Lib.hid HV.out.2.2.2
    clear HV HK
    generalize ByteArray.empty = em at *
    go_wp2_with fail
    go_ret
    exact ⟨ret_u8 HB.out.symm, hr.out, hk.out⟩
  · have he : e = 0 := by
      rcases Int.lt_trichotomy e 0 with h | h | h
      · exact absurd (Or.inl (by omega)) hz
      · exact h
      · exact absurd (Or.inl (by omega)) hz
    have h0 : s.size ≠ 0 := fun h => hz (Or.inr h)
    have HV := Lib.hid (show rawV s e 1 = s.extract 0 1 ∧ rawS s e 1 = byteS s e ∧ rawE s e 1 = byteE s e from by
      have q : ¬ ((s.size : Int) < 1) := by omega
      unfold rawV rawS rawE byteS byteE; simp [he, h0, q])
    have hsz : (s.extract 0 1).size = 1 := by simp; omega
    have hne : (s.extract 0 1).toList.isEmpty = false := by
      rw [ByteArray.toList_eq]
      have : (s.extract 0 1).data.toList.length = 1 := hsz
      cases hq : (s.extract 0 1).data.toList with
      | nil => rw [hq] at this; simp at this
      | cons => rfl
    have HX := Lib.hid (show ∀ hx : 0 < (s.extract 0 1).size, ((s.extract 0 1)[0]'hx).toNat = byteV s e from fun hx => by
      unfold byteV
      rw [if_neg hz, ByteArray.getElem_extract]
      simp only [Nat.zero_add]
      rw [Array.getD_eq_getD_getElem?, Array.getElem?_eq_getElem (show 0 < s.data.size from by have : s.data.size = s.size := rfl; omega)]
      rfl)
    clear hz he h0
    generalize s.extract 0 1 = v at *
    go_enter Try.func89, Try.ntmps89
    go_wp2_with fail
    refine (HK.out).mono ?_
    rw [HV.out.1, HV.out.2.1, HV.out.2.2]
    rintro en w' ⟨rfl, hr, hk⟩
    have hr := Lib.hid hr
    have hk := Lib.hid hk
    go_wp2_with fail
    go_ret
    exact ⟨ret_u8 (HX.out _), hr.out, hk.out⟩

theorem byte92 (b : Nat) (s : ByteArray) (e : Int) (w : World) (h : RdAt w b 116 s e) : Calls Try.prog 92 #[ptr b] w fun en w' => en = .returned (.int .u8 (byteV s e)) ∧ RdAt w' b 116 (byteS s e) (byteE s e) ∧ Keeps [b] w w' := by
  have HK := Lib.hid (raw94 b s e 1 w h); clear h
  by_cases hz : e ≠ 0 ∨ s.size = 0
  · have HV := Lib.hid (show rawV s e 1 = ByteArray.empty ∧ rawS s e 1 = byteS s e ∧ rawE s e 1 = byteE s e ∧ byteV s e = 0 from by
      by_cases he : e = 0
      · have h0 : s.size = 0 := by simpa [he] using hz
        unfold rawV rawS rawE byteS byteE byteV; simp [he, h0]
      · unfold rawV rawS rawE byteS byteE byteV; simp [he])
    have hem : ByteArray.empty.toList.isEmpty = true := by rw [ByteArray.toList_eq]; rfl
    clear hz
    go_enter Try.func92, Try.ntmps92
    go_wp2_with fail
    refine (HK.out).mono ?_
    rw [HV.out.1, HV.out.2.1, HV.out.2.2.1]
    rintro en w' ⟨rfl, hr, hk⟩
    have hr := Lib.hid hr
    have hk := Lib.hid hk
    have HB := Lib.hid HV.out.2.2.2
    clear HV HK
    generalize ByteArray.empty = em at *
    go_wp2_with fail
    go_ret
    exact ⟨ret_u8 HB.out.symm, hr.out, hk.out⟩
  · have he : e = 0 := by
      rcases Int.lt_trichotomy e 0 with h | h | h
      · exact absurd (Or.inl (by omega)) hz
      · exact h
      · exact absurd (Or.inl (by omega)) hz
    have h0 : s.size ≠ 0 := fun h => hz (Or.inr h)
    have HV := Lib.hid (show rawV s e 1 = s.extract 0 1 ∧ rawS s e 1 = byteS s e ∧ rawE s e 1 = byteE s e from by
      have q : ¬ ((s.size : Int) < 1) := by omega
      unfold rawV rawS rawE byteS byteE; simp [he, h0, q])
    have hsz : (s.extract 0 1).size = 1 := by simp; omega
    have hne : (s.extract 0 1).toList.isEmpty = false := by
      rw [ByteArray.toList_eq]
      have : (s.extract 0 1).data.toList.length = 1 := hsz
      cases hq : (s.extract 0 1).data.toList with
      | nil => rw [hq] at this; simp at this
      | cons => rfl
    have HX := Lib.hid (show ∀ hx : 0 < (s.extract 0 1).size, ((s.extract 0 1)[0]'hx).toNat = byteV s e from fun hx => by
      unfold byteV
      rw [if_neg hz, ByteArray.getElem_extract]
      simp only [Nat.zero_add]
      rw [Array.getD_eq_getD_getElem?, Array.getElem?_eq_getElem (show 0 < s.data.size from by have : s.data.size = s.size := rfl; omega)]
      rfl)
    clear hz he h0
    generalize s.extract 0 1 = v at *
    go_enter Try.func92, Try.ntmps92
    go_wp2_with fail
    refine (HK.out).mono ?_
    rw [HV.out.1, HV.out.2.1, HV.out.2.2]
    rintro en w' ⟨rfl, hr, hk⟩
    have hr := Lib.hid hr
    have hk := Lib.hid hk
    go_wp2_with fail
    go_ret
    exact ⟨ret_u8 (HX.out _), hr.out, hk.out⟩

theorem newReader68 (s : ByteArray) (w : World) : Calls Try.prog 68 #[.string s] w fun en w' => en = .returned (ptr w.heap.size) ∧ RdAt w' w.heap.size 134 s 0 ∧ Keeps [] w w' := by
  go_enter Try.func68, Try.ntmps68
  go_wp2_with fail
  go_ret
  exact ⟨rfl, RowAt.new w 134 [.string s, .int .i64 0], (Keeps.refl [] w).alloc _⟩

theorem err70 (b : Nat) (s : ByteArray) (e : Int) (w : World) (h : RdAt w b 134 s e) : Calls Try.prog 70 #[ptr b] w fun en w' => en = .returned (.int .i64 e) ∧ w = w' := by
  have c1 := h.c1
  clear h
  go_enter Try.func70, Try.ntmps70
  go_wp2_with fail
  go_ret
  exact ⟨rfl, rfl⟩

/-- What Done tells. -/
def doneE (s : ByteArray) (e : Int) : Int := if e ≠ 0 then e else if s.size = 0 then 0 else 4

theorem done72 (b : Nat) (s : ByteArray) (e : Int) (w : World) (h : RdAt w b 134 s e) : Calls Try.prog 72 #[ptr b] w fun en w' => en = .returned (.int .i64 (doneE s e)) ∧ w = w' := by
  have c0 := h.c0
  have HK := Lib.hid (err70 b s e w h)
  clear h
  unfold doneE
  by_cases he : e = 0
  · subst he
    by_cases hs : s.size = 0
    · have hem : s.toList.isEmpty = true := by
        rw [ByteArray.toList_eq]
        have : s.data.toList.length = 0 := hs
        rw [List.length_eq_zero_iff.1 this]; rfl
      rw [if_neg (by simp), if_pos hs]
      clear hs
      go_enter Try.func72, Try.ntmps72
      go_wp2_with fail
      refine (HK.out).mono ?_
      rintro en w' ⟨rfl, rfl⟩
      go_wp2_with fail
      go_ret
      exact ⟨rfl, rfl⟩
    · have hem : s.toList.isEmpty = false := by
        rw [ByteArray.toList_eq]
        have : s.data.toList.length ≠ 0 := hs
        cases hq : s.data.toList with
        | nil => rw [hq] at this; simp at this
        | cons => rfl
      rw [if_neg (by simp), if_neg hs]
      clear hs
      go_enter Try.func72, Try.ntmps72
      go_wp2_with fail
      refine (HK.out).mono ?_
      rintro en w' ⟨rfl, rfl⟩
      go_wp2_with fail
      go_ret
      exact ⟨rfl, rfl⟩
  · have hb : (e == 0) = false := by simpa using he
    rw [if_pos he]
    clear he
    go_enter Try.func72, Try.ntmps72
    go_wp2_with fail
    refine (HK.out).mono ?_
    rintro en w' ⟨rfl, rfl⟩
    go_wp2_with fail
    go_ret
    exact ⟨rfl, rfl⟩
end Go.Proofs.Ytffcambjdlkfbaa
