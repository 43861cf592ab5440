/- Contracts of the readers (package varint, and the reference of layer 1): fail, Raw. -/
import Derived.Test.YtffcambjdlkfbaaAwakeA
namespace Go.Proofs.Ytffcambjdlkfbaa
open Go.RowKit

/-- A reader, of type T, at block b: what is left, and what was wrong first. -/
def RdAt (w : World) (b : Nat) (T : TypeId) (s : ByteArray) (e : Int) : Prop := RowAt w b T [.string s, .int .i64 e]

section
variable {w w' : World} {b : Nat} {T : TypeId} {s : ByteArray} {e : Int}
theorem RdAt.c0 (h : RdAt w b T s e) : w.cell? ⟨b, 0, none⟩ = some (.string s) := by rw [RowAt.cell h]; rfl
theorem RdAt.c1 (h : RdAt w b T s e) : w.cell? ⟨b, 1, none⟩ = some (.int .i64 e) := by rw [RowAt.cell h]; rfl
theorem RdAt.free (h : RdAt w b T s e) (i : Nat) : w.frozen? ⟨b, i, none⟩ = false := RowAt.free h i
theorem RdAt.keeps {S : List Nat} (h : RdAt w b T s e) (k : Keeps S w w') (hb : b ∉ S) : RdAt w' b T s e := RowAt.keeps h k hb
theorem RdAt.setE (h : RdAt w b T s e) (x : Int) : RdAt (w.setCell ⟨b, 1, none⟩ (.int .i64 x)) b T s x := RowAt.set h 1 _
theorem RdAt.setS (h : RdAt w b T s e) (x : ByteArray) : RdAt (w.setCell ⟨b, 0, none⟩ (.string x)) b T x e := RowAt.set h 0 _
end

theorem keeps_store1 (w : World) (g i : Nat) (v : Value) : Keeps [g] w (w.setCell ⟨g, i, none⟩ v) := (Keeps.refl [g] w).setCell (p := ⟨g, i, none⟩) (Or.inl (by simp)) v

/-- What fail notes. -/
def failE (e x : Int) : Int := if e = 0 then x else e

theorem fail90 (b : Nat) (s : ByteArray) (e x : Int) (w : World) (h : RdAt w b 134 s e) : Calls Try.prog 90 #[ptr b, .int .i64 x] w fun en w' => en = .returned (.tuple #[]) ∧ RdAt w' b 134 s (failE e x) ∧ Keeps [b] w w' := by
  have c1 := h.c1
  have f1 := h.free 1
  have H := Lib.hid h; clear h
  unfold failE
  by_cases he : e = 0
  · subst he
    rw [if_pos rfl]
    go_enter Try.func90, Try.ntmps90
    go_wp2_with fail
    go_end0
    exact ⟨rfl, H.out.setE x, keeps_store1 _ _ _ _⟩
  · have hb : (e == 0) = false := by simpa using he
    rw [if_neg he]
    clear he
    go_enter Try.func90, Try.ntmps90
    go_wp2_with fail
    go_end0
    exact ⟨rfl, H.out, Keeps.refl _ _⟩

theorem fail93 (b : Nat) (s : ByteArray) (e x : Int) (w : World) (h : RdAt w b 116 s e) : Calls Try.prog 93 #[ptr b, .int .i64 x] w fun en w' => en = .returned (.tuple #[]) ∧ RdAt w' b 116 s (failE e x) ∧ Keeps [b] w w' := by
  have c1 := h.c1
  have f1 := h.free 1
  have H := Lib.hid h; clear h
  unfold failE
  by_cases he : e = 0
  · subst he
    rw [if_pos rfl]
    go_enter Try.func93, Try.ntmps93
    go_wp2_with fail
    go_end0
    exact ⟨rfl, H.out.setE x, keeps_store1 _ _ _ _⟩
  · have hb : (e == 0) = false := by simpa using he
    rw [if_neg he]
    clear he
    go_enter Try.func93, Try.ntmps93
    go_wp2_with fail
    go_end0
    exact ⟨rfl, H.out, Keeps.refl _ _⟩

/-- What Raw takes, what it leaves, what it notes. -/
def rawV (s : ByteArray) (e n : Int) : ByteArray := if e ≠ 0 then ByteArray.empty else if n < 0 then ByteArray.empty else if (s.size : Int) < n then ByteArray.empty else s.extract 0 n.toNat
def rawS (s : ByteArray) (e n : Int) : ByteArray := if e ≠ 0 then s else if n < 0 then s else if (s.size : Int) < n then s else s.extract n.toNat s.size
def rawE (s : ByteArray) (e n : Int) : Int := if e ≠ 0 then e else if n < 0 then 1 else if (s.size : Int) < n then 3 else 0

theorem raw91 (b : Nat) (s : ByteArray) (e n : Int) (w : World) (h : RdAt w b 134 s e) :
    Calls Try.prog 91 #[ptr b, .int .i64 n] w fun en w' => en = .returned (.string (rawV s e n)) ∧ RdAt w' b 134 (rawS s e n) (rawE s e n) ∧ Keeps [b] w w' := by
  have c0 := h.c0
  have c1 := h.c1
  have f0 := h.free 0
  have H := Lib.hid h; clear h
  by_cases he : e = 0
  · subst he
    rcases Int.lt_or_le n 0 with h1 | h1
    · have hv : rawV s 0 n = ByteArray.empty ∧ rawS s 0 n = s ∧ rawE s 0 n = 1 := by
        unfold rawV rawS rawE; simp [h1]
      obtain ⟨hv1, hv2, hv3⟩ := hv
      rw [hv1, hv2, hv3]
      clear hv1 hv2 hv3
      go_enter Try.func91, Try.ntmps91
      go_wp2_with fail
      refine (fail90 b s 0 1 _ H.out).mono ?_
      rintro en w' ⟨rfl, hr, hk⟩
      have hr := Lib.hid hr
      have hk := Lib.hid hk
      go_wp2_with fail
      go_ret
      exact ⟨rfl, hr.out, hk.out⟩
    · obtain ⟨m, rfl⟩ := Int.eq_ofNat_of_zero_le h1
      by_cases h2 : s.size < m
      · have hv : rawV s 0 m = ByteArray.empty ∧ rawS s 0 m = s ∧ rawE s 0 m = 3 := by
          have q : ¬ ((m : Int) < 0) := by omega
          unfold rawV rawS rawE; simp [h2, q]
        obtain ⟨hv1, hv2, hv3⟩ := hv
        rw [hv1, hv2, hv3]
        clear hv1 hv2 hv3
        go_enter Try.func91, Try.ntmps91
        go_wp2_with fail
        refine (fail90 b s 0 3 _ H.out).mono ?_
        rintro en w' ⟨rfl, hr, hk⟩
        have hr := Lib.hid hr
        have hk := Lib.hid hk
        go_wp2_with fail
        go_ret
        exact ⟨rfl, hr.out, hk.out⟩
      · have hv : rawV s 0 m = s.extract 0 m ∧ rawS s 0 m = s.extract m s.size ∧ rawE s 0 m = 0 := by
          have q : ¬ ((m : Int) < 0) := by omega
          unfold rawV rawS rawE; simp [h2, q]
        obtain ⟨hv1, hv2, hv3⟩ := hv
        rw [hv1, hv2, hv3]
        clear hv1 hv2 hv3
        have hn : m ≤ s.size := by omega
        go_enter Try.func91, Try.ntmps91
        go_wp2_with fail
        go_ret
        exact ⟨rfl, H.out.setS _, keeps_store1 _ _ _ _⟩
  · have hb : (e == 0) = false := by simpa using he
    have hv : rawV s e n = ByteArray.empty ∧ rawS s e n = s ∧ rawE s e n = e := by
      unfold rawV rawS rawE; rw [if_pos he, if_pos he, if_pos he]; exact ⟨rfl, rfl, rfl⟩
    obtain ⟨hv1, hv2, hv3⟩ := hv
    rw [hv1, hv2, hv3]
    clear hv1 hv2 hv3 he
    go_enter Try.func91, Try.ntmps91
    go_wp2_with fail
    go_ret
    exact ⟨rfl, H.out, Keeps.refl _ _⟩

theorem raw94 (b : Nat) (s : ByteArray) (e n : Int) (w : World) (h : RdAt w b 116 s e) :
    Calls Try.prog 94 #[ptr b, .int .i64 n] w fun en w' => en = .returned (.string (rawV s e n)) ∧ RdAt w' b 116 (rawS s e n) (rawE s e n) ∧ Keeps [b] w w' := by
  have c0 := h.c0
  have c1 := h.c1
  have f0 := h.free 0
  have H := Lib.hid h; clear h
  by_cases he : e = 0
  · subst he
    rcases Int.lt_or_le n 0 with h1 | h1
    · have hv : rawV s 0 n = ByteArray.empty ∧ rawS s 0 n = s ∧ rawE s 0 n = 1 := by
        unfold rawV rawS rawE; simp [h1]
      obtain ⟨hv1, hv2, hv3⟩ := hv
      rw [hv1, hv2, hv3]
      clear hv1 hv2 hv3
      go_enter Try.func94, Try.ntmps94
      go_wp2_with fail
      refine (fail93 b s 0 1 _ H.out).mono ?_
      rintro en w' ⟨rfl, hr, hk⟩
      have hr := Lib.hid hr
      have hk := Lib.hid hk
      go_wp2_with fail
      go_ret
      exact ⟨rfl, hr.out, hk.out⟩
    · obtain ⟨m, rfl⟩ := Int.eq_ofNat_of_zero_le h1
      by_cases h2 : s.size < m
      · have hv : rawV s 0 m = ByteArray.empty ∧ rawS s 0 m = s ∧ rawE s 0 m = 3 := by
          have q : ¬ ((m : Int) < 0) := by omega
          unfold rawV rawS rawE; simp [h2, q]
        obtain ⟨hv1, hv2, hv3⟩ := hv
        rw [hv1, hv2, hv3]
        clear hv1 hv2 hv3
        go_enter Try.func94, Try.ntmps94
        go_wp2_with fail
        refine (fail93 b s 0 3 _ H.out).mono ?_
        rintro en w' ⟨rfl, hr, hk⟩
        have hr := Lib.hid hr
        have hk := Lib.hid hk
        go_wp2_with fail
        go_ret
        exact ⟨rfl, hr.out, hk.out⟩
      · have hv : rawV s 0 m = s.extract 0 m ∧ rawS s 0 m = s.extract m s.size ∧ rawE s 0 m = 0 := by
          have q : ¬ ((m : Int) < 0) := by omega
          unfold rawV rawS rawE; simp [h2, q]
        obtain ⟨hv1, hv2, hv3⟩ := hv
        rw [hv1, hv2, hv3]
        clear hv1 hv2 hv3
        have hn : m ≤ s.size := by omega
        go_enter Try.func94, Try.ntmps94
        go_wp2_with fail
        go_ret
        exact ⟨rfl, H.out.setS _, keeps_store1 _ _ _ _⟩
  · have hb : (e == 0) = false := by simpa using he
    have hv : rawV s e n = ByteArray.empty ∧ rawS s e n = s ∧ rawE s e n = e := by
      unfold rawV rawS rawE; rw [if_pos he, if_pos he, if_pos he]; exact ⟨rfl, rfl, rfl⟩
    obtain ⟨hv1, hv2, hv3⟩ := hv
    rw [hv1, hv2, hv3]
    clear hv1 hv2 hv3 he
    go_enter Try.func94, Try.ntmps94
    go_wp2_with fail
    go_ret
    exact ⟨rfl, H.out, Keeps.refl _ _⟩

end Go.Proofs.Ytffcambjdlkfbaa
