/- The law's own look at answers that the document fixes (signpostlaw12.awake): true, in whatever memory; and contracts of the map of chunks with what they give written out. No condition. -/
import Derived.Test.YtffcambjdlkfbaaRefB
namespace Go.Proofs.Ytffcambjdlkfbaa
open Go.RowKit

theorem new_lit (N : Int) (n : Nat) (w : World) (hN : N = n) (h1 : 1 ≤ n) (h2 : n ≤ 256) :
    Calls Try.prog 10 #[.int .i64 N] w fun e w' => e = .returned (.tuple #[ptr w.heap.size, .int .i64 0]) ∧ MapAt w' w.heap.size (List.replicate n false) ∧ Keeps [] w w' ∧ w.heap.size < w'.heap.size := by
  subst hN
  refine (new_yes n w h1 h2).mono ?_
  rintro e w' ⟨rfl, rfl⟩
  exact ⟨rfl, MapAt.made w n h1 h2, (Keeps.refl _ _).alloc _, by simp⟩

theorem set_lit (b : Nat) (l l' : List Bool) (i : Int) (r : Bool) (w : World) (hm : MapAt w b l) (h1 : setOk l i = r) (h2 : setL l i = l') :
    Calls Try.prog 11 #[ptr b, .int .i64 i] w fun e w' => e = .returned (.bool r) ∧ MapAt w' b l' ∧ Keeps [b] w w' := by
  subst h1; subst h2
  exact set_any b l i w hm

theorem base_lit (b : Nat) (l : List Bool) (r : Int) (w : World) (hm : MapAt w b l) (h : (baseL l : Int) = r) : Calls Try.prog 15 #[ptr b] w fun e w' => e = .returned (.int .i64 r) ∧ w = w' := by
  subst h; exact base_any b l w hm
theorem count_lit (b : Nat) (l : List Bool) (r : Int) (w : World) (hm : MapAt w b l) (h : (countL l : Int) = r) : Calls Try.prog 17 #[ptr b] w fun e w' => e = .returned (.int .i64 r) ∧ w = w' := by
  subst h; exact count_any b l w hm
theorem len_lit (b : Nat) (l : List Bool) (r : Int) (w : World) (hm : MapAt w b l) (h : (l.length : Int) = r) : Calls Try.prog 25 #[ptr b] w fun e w' => e = .returned (.int .i64 r) ∧ w = w' := by
  subst h; exact len_any b l w hm
theorem has_lit (b : Nat) (l : List Bool) (i : Int) (r : Bool) (w : World) (hm : MapAt w b l) (h : hasL l i = r) : Calls Try.prog 14 #[ptr b, .int .i64 i] w fun e w' => e = .returned (.bool r) ∧ w = w' := by
  subst h; exact has_any b l i w hm
theorem full_lit (b : Nat) (l : List Bool) (r : Bool) (w : World) (hm : MapAt w b l) (h : (baseL l == l.length) = r) : Calls Try.prog 19 #[ptr b] w fun e w' => e = .returned (.bool r) ∧ Keeps [] w w' := by
  subst h
  exact (full_any b l w hm).mono fun e w' ⟨h1, n, h2⟩ => ⟨h1, by rw [← h2]; exact Keeps.of_drewN w n⟩
theorem behind_lit (b : Nat) (l : List Bool) (k : Int) (out : ByteArray) (w : World) (hm : MapAt w b l) (h : (⟨(behindL l (upTo256 k)).toArray⟩ : ByteArray) = out) :
    Calls Try.prog 20 #[ptr b, .int .i64 k] w fun e w' => e = .returned (.string out) ∧ Keeps [] w w' := by
  subst h
  exact behind_any b l k w hm
theorem merge_lit (b : Nat) (l l' : List Bool) (base : Int) (s : ByteArray) (r : Int) (w : World) (hm : MapAt w b l) (hs : s.size ≤ 1000) (h1 : laid l (toldAt base s) l.length = l') (h2 : (newOnes l (toldAt base s) l.length : Int) = r) :
    Calls Try.prog 13 #[ptr b, .int .i64 base, .string s] w fun e w' => e = .returned (.int .i64 r) ∧ MapAt w' b l' ∧ Keeps [b] w w' := by
  subst h1; subst h2
  exact merge_any b l base s w hm hs

theorem missing_lit (b : Nat) (l : List Bool) (a t : Int) (xs : List Int) (w : World) (hm : MapAt w b l) (h : missL l a t = xs) :
    Calls Try.prog 23 #[ptr b, .int .i64 a, .int .i64 t] w (IntsPost xs w) := by
  subst h; exact missing_any b l a t w hm

theorem reads_two (w : World) (a c : Int) : Reads (w.alloc (.cells #[.int .i64 a, .int .i64 c] 3)) (.slice (some ⟨w.heap.size, 0, none⟩) 2 2) ([a, c].map (Value.int .i64)) := by
  refine .inr ⟨w.heap.size, 0, 2, rfl, by simp, by unfold maxLen; omega, fun i u hu => ?_⟩
  have h := RowAt.new w 3 [.int .i64 a, .int .i64 c]
  have hc := h.cell i
  rw [Nat.zero_add]
  exact hc.trans hu

theorem Reads.keeps {S : List Nat} {w w' : World} {v : Value} {xs : List Value} (h : Reads w v xs) (k : Keeps S w w') (hs : ∀ g, v.ownBlock = some g → g ∉ S) : Reads w' v xs := by
  rcases h with h | ⟨g, o, cap, rfl, h1, h2, h3⟩
  · exact .inl h
  · exact .inr ⟨g, o, cap, rfl, h1, h2, fun i u hu => k.cell (hs g rfl) (h3 i u hu)⟩

def AwakePost (w : World) (e : Ending) (w' : World) : Prop := e = .returned (.bool true) ∧ Keeps [] w w'

set_option maxRecDepth 100000 in
set_option maxHeartbeats 2000000 in
theorem awake12 (w : World) : Calls Try.prog 9 #[] w (AwakePost w) := by
  go_enter Try.func9, Try.ntmps9
  go_wp2_with fail
  refine (new_lit 5 5 _ rfl (by omega) (by omega)).mono ?_
  rintro e w1 ⟨rfl, m1, k1, s1⟩
  go_wp2_with fail
  refine (new_no 0 _ (by omega)).mono ?_
  rintro e w2 ⟨rfl, rfl⟩
  generalize hb : w.heap.size = b at *
  have HB := Lib.hid hb; clear hb
  have k1 := Lib.hid k1
  go_wp2_with fail
  refine (set_lit b _ [true, false, false, false, false] 0 true _ m1 (by decide) (by decide)).mono ?_
  rintro e w2 ⟨rfl, m2, k2⟩
  have k2 := Lib.hid k2
  go_wp2_with fail
  refine (set_lit b _ [true, true, false, false, false] 1 true _ m2 (by decide) (by decide)).mono ?_
  rintro e w3 ⟨rfl, m3, k3⟩
  have k3 := Lib.hid k3
  go_wp2_with fail
  refine (set_lit b _ [true, true, false, true, false] 3 true _ m3 (by decide) (by decide)).mono ?_
  rintro e w4 ⟨rfl, m4, k4⟩
  have k4 := Lib.hid k4
  go_wp2_with fail
  refine (set_lit b _ [true, true, false, true, false] 3 false _ m4 (by decide) (by decide)).mono ?_
  rintro e w5 ⟨rfl, m5, k5⟩
  have k5 := Lib.hid k5
  go_wp2_with fail
  refine (new_lit 5 5 _ rfl (by omega) (by omega)).mono ?_
  rintro e w6 ⟨rfl, o6, k6, s6⟩
  have m6 := m5.keeps k6 (by simp)
  have hne : b ≠ w5.heap.size := Nat.ne_of_lt m5.lt
  have hb5 := Lib.hid (show b < w5.heap.size from m5.lt)
  generalize hc : w5.heap.size = c at *
  have HC := Lib.hid hc; clear hc s6
  have k6 := Lib.hid k6
  have hne := Lib.hid hne
  go_wp2_with fail
  refine (base_lit b _ 2 _ m6 (by decide)).mono ?_
  rintro e w7 ⟨rfl, rfl⟩
  go_wp2_with fail
  refine (behind_lit b _ 8 ⟨#[1]⟩ _ m6 (by decide)).mono ?_
  rintro e w7 ⟨rfl, k7⟩
  have m7 := m6.keeps k7 (by simp)
  have o7 := o6.keeps k7 (by simp)
  have k7 := Lib.hid k7
  go_wp2_with fail
  refine (merge_lit c _ [true, true, false, true, false] 2 _ 3 _ o7 (by decide) (by decide) (by decide)).mono ?_
  rintro e w8 ⟨rfl, o8, k8⟩
  have m8 := m7.keeps k8 (by simpa using hne.out)
  have k8 := Lib.hid k8
  go_wp2_with fail
  refine (base_lit b _ 2 _ m8 (by decide)).mono ?_
  rintro e w9 ⟨rfl, rfl⟩
  go_wp2_with fail
  refine (count_lit b _ 3 _ m8 (by decide)).mono ?_
  rintro e w9 ⟨rfl, rfl⟩
  go_wp2_with fail
  refine (behind_lit b _ 2 ⟨#[1]⟩ _ m8 (by decide)).mono ?_
  rintro e w9 ⟨rfl, k9⟩
  have m9 := m8.keeps k9 (by simp)
  have o9 := o8.keeps k9 (by simp)
  have k9 := Lib.hid k9
  go_wp2_with fail
  refine (has_lit c _ 3 true _ o9 (by decide)).mono ?_
  rintro e w10 ⟨rfl, rfl⟩
  go_wp2_with fail
  refine (has_lit c _ 2 false _ o9 (by decide)).mono ?_
  rintro e w10 ⟨rfl, rfl⟩
  go_wp2_with fail
  refine (missing_lit b _ 0 9 [2, 4] _ m9 (by decide)).mono ?_
  rintro e w10 ⟨v, rfl, hv, k10⟩
  have m10 := m9.keeps k10 (by simp)
  have r10 := Reads.of_owns hv
  have hv := Lib.hid hv
  rename_i hv0
  clear hv0
  have k10 := Lib.hid k10
  rename_i k10'
  clear k10'
  have R10 := Lib.hid r10; clear r10
  go_wp2_with fail
  have ka := (Keeps.refl [] w10).alloc (.cells #[.int .i64 2, .int .i64 4] 3)
  have r11 := Reads.keeps R10.out ka (by simp)
  have R11 := Lib.hid r11; clear r11
  have r12 := Lib.hid (reads_two w10 2 4)
  have m11 := m10.keeps ka (by simp)
  have ka := Lib.hid ka
  rename_i ka'
  clear ka'
  generalize w10.alloc (.cells #[.int .i64 2, .int .i64 4] 3) = w11 at *
  refine (same_yes _ _ [2, 4] _ R11.out r12.out).mono ?_
  rintro e w12 ⟨rfl, n, rfl⟩
  have m12 : MapAt (w11.drewN n) b [true, true, false, true, false] := m11
  have k12 := Lib.hid (Keeps.of_drewN w11 n)
  generalize w11.drewN n = w12 at *
  go_wp2_with fail
  refine (full_lit b _ false _ m12 (by decide)).mono ?_
  rintro e w13 ⟨rfl, k13⟩
  have m13 := m12.keeps k13 (by simp)
  have k13 := Lib.hid k13
  go_wp2_with fail
  refine (len_lit b _ 5 _ m13 (by decide)).mono ?_
  rintro e w14 ⟨rfl, rfl⟩
  go_wp2_with fail
  refine (set_lit b _ [true, true, false, true, false] 5 false _ m13 (by decide) (by decide)).mono ?_
  rintro e w14 ⟨rfl, m14, k14⟩
  have k14 := Lib.hid k14
  go_wp2_with fail
  go_ret
  have kb : Keeps [b] w w5 := (((k1.out.mono (T := [b]) (by simp)).trans k2.out).trans k3.out).trans (k4.out.trans k5.out)
  have kc : Keeps [b] w w14 := ((((((kb.trans (k6.out.mono (by simp))).trans (k7.out.mono (by simp))).then k8.out (by
    intro i hi
    simp at hi; subst hi
    right; rw [← HC.out]; exact kb.size)).trans (k9.out.mono (by simp))).trans (k10.out.mono (by simp))).trans (ka.out.mono (by simp))).trans ((k12.out.mono (by simp)).trans ((k13.out.mono (by simp)).trans k14.out))
  exact ⟨rfl, (Keeps.refl [] w).then kc (by intro i hi; simp at hi; subst hi; right; rw [HB.out]; exact Nat.le_refl _)⟩
end Go.Proofs.Ytffcambjdlkfbaa
