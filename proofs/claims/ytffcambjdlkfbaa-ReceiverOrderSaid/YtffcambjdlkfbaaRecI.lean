/- Contracts of New (package receiver, and the reference of layer 14). -/
import Derived.Test.YtffcambjdlkfbaaRecH
namespace Go.Proofs.Ytffcambjdlkfbaa
open Go.RowKit Go.Maps

abbrev noTexts (n : Nat) : List Value := List.replicate n (Value.string ByteArray.empty)
abbrev noBools (n : Nat) : List Value := List.replicate n (Value.bool false)
abbrev noNums (n : Nat) : List Value := List.replicate n (Value.int .i64 0)

theorem Try.infoI : (Try.prog.info? 3).map (fun i => (i.zero, i.size, i.bytes)) = some (some (.int .i64 0), 1, 8) := by kernel_rfl
theorem Try.infoB : (Try.prog.info? 4).map (fun i => (i.zero, i.size, i.bytes)) = some (some (.bool false), 1, 1) := by kernel_rfl

theorem make_bools2 (u : World) (n : Nat) (hn : n ≤ 1000000) : (Instr.makeSlice 28 (.int .i64 n) (.int .i64 n)).run Try.prog u =
    .ok (.slice (some ⟨u.heap.size, 0, none⟩) n n) (u.alloc (.cells (noBools n).toArray 4)) := by
  obtain ⟨i0, hi, hz0, hz1, hz2⟩ := info_parts Try.infoB
  have h := run_make (P := Try.prog) u 28 4 i0 (.bool false) Try.underlying28 hi hz0 .i64 .i64 (n : Int) (n : Int) (by omega) (Int.le_refl _) (by rw [hz2]; omega) (by omega)
  have e : madeCells (Value.bool false).cells n = (noBools n).toArray := by
    rw [← Array.toList_inj, show (Value.bool false).cells = #[.bool false] from rfl, toList_madeCells_one]
  rw [Int.toNat_natCast, hz1, Nat.mul_one, e] at h
  exact h
theorem make_nums20 (u : World) : (Instr.makeSlice 40 (.int .i64 20) (.int .i64 20)).run Try.prog u =
    .ok (.slice (some ⟨u.heap.size, 0, none⟩) 20 20) (u.alloc (.cells (noNums 20).toArray 3)) := by
  obtain ⟨i0, hi, hz0, hz1, hz2⟩ := info_parts Try.infoI
  have h := run_make (P := Try.prog) u 40 3 i0 (.int .i64 0) Try.underlying40 hi hz0 .i64 .i64 (20 : Int) (20 : Int) (by omega) (Int.le_refl _) (by rw [hz2]; decide) (by omega)
  have e : madeCells (Value.int IntKind.i64 0).cells 20 = (noNums 20).toArray := by
    rw [← Array.toList_inj, show (Value.int IntKind.i64 0).cells = #[.int .i64 0] from rfl, toList_madeCells_one]
  rw [show ((20 : Int).toNat) = 20 from rfl, hz1, Nat.mul_one, e] at h
  exact h
theorem make_texts2 (u : World) (n : Nat) (hn : n ≤ 1000000) : (Instr.makeSlice 44 (.int .i64 n) (.int .i64 n)).run Try.prog u =
    .ok (.slice (some ⟨u.heap.size, 0, none⟩) n n) (u.alloc (.cells (noTexts n).toArray 9)) := by
  have h := make_texts u n hn
  rw [List.map_replicate] at h
  exact h

theorem RowAt.fresh {w : World} {T : TypeId} {xs : List Value} {g : Nat} (h : g = w.heap.size) : RowAt (w.alloc (.cells xs.toArray T)) g T xs := by subst h; exact RowAt.new w T xs

section
variable {w : World} {g n : Nat}
theorem TextsAt.of_row (h : RowAt w g 9 (noTexts n)) (hn : n ≤ 1000000) : TextsAt w g n (List.replicate n noText) :=
  ⟨by simp, .inr ⟨g, n, (noTexts n).toArray, by simp, Nat.zero_le _, h, by simp, by unfold maxLen; omega, by simp, by simp⟩⟩
theorem BoolsAt.of_row2 (h : RowAt w g 4 (noBools n)) (hn : n ≤ 1000000) : BoolsAt w g n (List.replicate n false) :=
  ⟨by simp, .inr ⟨g, n, (noBools n).toArray, by simp, Nat.zero_le _, h, by simp, by unfold maxLen; omega, by simp, by simp⟩⟩
theorem NumsAt.of_row (h : RowAt w g 3 (noNums n)) (hn : n ≤ 1000000) : NumsAt w g n (List.replicate n 0) :=
  ⟨by simp, .inr ⟨g, n, (noNums n).toArray, by simp, Nat.zero_le _, h, by simp, by unfold maxLen; omega, by simp, by simp⟩⟩
end

theorem dropsAt_made (u : World) : DropsAt (u.alloc (.map #[] 0)) u.heap.size 0 zeros20 := by
  refine ⟨by simp, fun i => ?_, .map [], World.ownsMap_made _ _ _ _, fun i hi => ?_⟩
  · rw [List.getD_eq_getElem?_getD, List.getElem?_replicate]; split <;> simp
  · rw [List.getD_eq_getElem?_getD, List.getElem?_replicate, if_pos hi]
    exact atKey_of_not_has rfl _

/-- A new receiver's blocks, all of them new. -/
def NewPost (R : Rcv) (w : World) (e : Ending) (w' : World) : Prop :=
  ∃ b m g cap k, e = .returned (.tuple #[ptr b, .int .i64 0]) ∧ RcvAt w' b m g cap k 0 R ∧ (w.heap.size ≤ b ∧ w.heap.size ≤ m ∧ w.heap.size ≤ g ∧ w.heap.size ≤ k) ∧ Keeps [] w w'

set_option maxRecDepth 100000 in
theorem new47_yes (ses epo n : Nat) (w : World) (h1 : 1 ≤ n) (h2 : n ≤ 256) (hs : ses < 4294967296) (he : epo < 4294967296) :
    Calls Try.prog 47 #[.int .i64 ses, .int .i64 epo, .int .i64 n] w (NewPost (newR ses epo n) w) := by
  have hmm := @run_makeMap Try.prog
  have hmk := fun u : World => make_texts2 u n (by omega)
  have t1 : decide ((ses : Int) < 0) = false := decide_eq_false (by omega)
  have t2 : decide ((4294967296 : Int) ≤ (ses : Int)) = false := decide_eq_false (by omega)
  have t3 : decide ((epo : Int) < 0) = false := decide_eq_false (by omega)
  have t4 : decide ((4294967296 : Int) ≤ (epo : Int)) = false := decide_eq_false (by omega)
  go_enter Try.func47, Try.ntmps47
  go_wp2_with fail
  refine (new_lit n n w rfl h1 h2).mono ?_
  rintro e w1 ⟨rfl, m1, k1, s1⟩
  have m1 := Lib.hid m1
  have k1 := Lib.hid k1
  generalize hm : w.heap.size = m at *
  have HM := Lib.hid hm; clear hm
  generalize hA : (noTexts n).toArray = A at *
  have HA := Lib.hid hA; clear hA
  go_wp2_with fail
  go_ret2
  have ra : RowAt (w1.alloc (.cells A 9)) w1.heap.size 9 (noTexts n) := by rw [← HA.out]; exact RowAt.new w1 9 (noTexts n)
  have ka : Keeps [] w1 (w1.alloc (.cells A 9)) := (Keeps.refl [] w1).alloc _
  have hsa : (w1.alloc (.cells A 9)).heap.size = w1.heap.size + 1 := by simp
  have dm := dropsAt_made (w1.alloc (.cells A 9))
  rw [hsa] at dm
  generalize w1.alloc (.cells A 9) = wa at *
  have kb : Keeps [] wa (wa.alloc (.map #[] 0)) := (Keeps.refl [] wa).alloc _
  have hsb : (wa.alloc (.map #[] 0)).heap.size = w1.heap.size + 1 + 1 := by simp [hsa]
  generalize wa.alloc (.map #[] 0) = wb at *
  have rb := RowAt.new wb 113 [.int .i64 ses, .int .i64 epo, ptr m, .slice (some ⟨w1.heap.size, 0, none⟩) n n, .map (some (w1.heap.size + 1))]
  have kc : Keeps [] wb (wb.alloc (.cells #[.int .i64 ses, .int .i64 epo, ptr m, .slice (some ⟨w1.heap.size, 0, none⟩) n n, .map (some (w1.heap.size + 1))] 113)) := (Keeps.refl [] wb).alloc _
  rw [hsb] at rb
  have e1 : (newR ses epo n).l.length = n := by simp [newR]
  refine ⟨w1.heap.size + 1 + 1, m, w1.heap.size, n, w1.heap.size + 1, rfl, ⟨by rw [e1]; exact rb, m1.out.keeps (ka.trans (kb.trans kc)) (by simp), (TextsAt.of_row ra (by omega)).keeps (kb.trans kc) (by simp), by simp [newR], dm.keeps kc (by simp)⟩, ?_, k1.out.trans (ka.trans (kb.trans kc))⟩
  have := HM.out
  omega

set_option maxRecDepth 100000 in
theorem new47_no (ses epo n : Int) (w : World) (h : ¬ May14 ses epo n) :
    Calls Try.prog 47 #[.int .i64 ses, .int .i64 epo, .int .i64 n] w fun e w' => e = .returned (.tuple #[.pointer none, .int .i64 1]) ∧ Keeps [] w w' := by
  unfold May14 at h
  by_cases hn : 1 ≤ n ∧ n ≤ 256
  · obtain ⟨m, rfl⟩ := Int.eq_ofNat_of_zero_le (show 0 ≤ n by omega)
    have HL := Lib.hid (new_lit m m w rfl (by omega) (by omega))
    have HH := Lib.hid h; clear h
    go_enter Try.func47, Try.ntmps47
    go_wp2_with fail
    refine (HL.out).mono ?_
    rintro e w1 ⟨rfl, m1, k1, s1⟩
    have k1 := Lib.hid k1
    go_wp2_with fail
    all_goals first
      | (go_ret2; exact ⟨rfl, k1.out⟩)
      | (exfalso; have := HH.out; simp at *; omega)
  · clear h
    go_enter Try.func47, Try.ntmps47
    go_wp2_with fail
    refine (new_no n w (by omega)).mono ?_
    rintro e w1 ⟨rfl, rfl⟩
    go_wp2_with fail
    go_ret2
    exact ⟨rfl, Keeps.refl _ _⟩

/-- A new reference's blocks, all of them new. -/
def RNewPost14 (R : Rcv) (w : World) (e : Ending) (w' : World) : Prop :=
  ∃ b gi ci gc cc gd cd, e = .returned (ptr b) ∧ RefAt w' b gi ci gc cc gd cd 0 R ∧ (w.heap.size ≤ b ∧ w.heap.size ≤ gi ∧ w.heap.size ≤ gc ∧ w.heap.size ≤ gd) ∧ Keeps [] w w'

theorem ref_new {w u : World} {ses epo n gi gc gd bx : Nat} (hn : n ≤ 256) (ku : Keeps [] w u) (hb : RowAt u gi 4 (noBools n)) (hc : RowAt u gc 9 (noTexts n)) (hd : RowAt u gd 3 (noNums 20)) (h1 : w.heap.size ≤ gi) (h2 : w.heap.size ≤ gc) (h3 : w.heap.size ≤ gd)
    (hbx : bx = u.heap.size) {e : Ending} (he : e = .returned (ptr bx)) :
    RNewPost14 (newR ses epo n) w e (u.alloc (.cells #[.int .i64 ses, .int .i64 epo, .slice (some ⟨gi, 0, none⟩) n n, .slice (some ⟨gc, 0, none⟩) n n, .slice (some ⟨gd, 0, none⟩) 20 20] 84)).drew := by
  subst hbx
  have kx : Keeps [] u (u.alloc (.cells #[.int .i64 ses, .int .i64 epo, .slice (some ⟨gi, 0, none⟩) n n, .slice (some ⟨gc, 0, none⟩) n n, .slice (some ⟨gd, 0, none⟩) 20 20] 84)).drew := ((Keeps.refl [] u).alloc _).drew
  have e1 : (newR ses epo n).l.length = n := by simp [newR]
  have rb := RowAt.new u 84 [.int .i64 ses, .int .i64 epo, .slice (some ⟨gi, 0, none⟩) n n, .slice (some ⟨gc, 0, none⟩) n n, .slice (some ⟨gd, 0, none⟩) 20 20]
  refine ⟨u.heap.size, gi, n, gc, n, gd, 20, he, ⟨by rw [e1]; exact rb, (BoolsAt.of_row2 hb (by omega)).keeps kx (by simp), (TextsAt.of_row hc (by omega)).keeps kx (by simp), by simp [newR], (NumsAt.of_row hd (by omega)).keeps kx (by simp), by simp [newR], fun i => ?_⟩, ⟨ku.size, h1, h2, h3⟩, ku.trans kx⟩
  show 0 ≤ (List.replicate 20 (0 : Int)).getD i 0 ∧ (List.replicate 20 (0 : Int)).getD i 0 ≤ _
  rw [List.getD_eq_getElem?_getD, List.getElem?_replicate]; split <;> simp

set_option maxRecDepth 100000 in
set_option maxHeartbeats 2000000 in
theorem new49 (ses epo n : Nat) (w : World) (h2 : n ≤ 256) :
    Calls Try.prog 49 #[.int .i64 ses, .int .i64 epo, .int .i64 n] w (RNewPost14 (newR ses epo n) w) := by
  have hmk := fun u : World => make_texts2 u n (by omega)
  have hmb := fun u : World => make_bools2 u n (by omega)
  have hmi := fun u : World => make_nums20 u
  go_enter Try.func49, Try.ntmps49
  go_wp2_with fail
  go_region
  all_goals
    go_wp2_with fail
    go_ret
    refine ref_new (u := _) (bx := _) h2 ?_ ?_ ?_ ?_ ?_ ?_ ?_ ?_ rfl
    · (repeat (refine Keeps.alloc ?_ _)); exact Keeps.refl _ _
    · (repeat (first | (refine RowAt.fresh ?_ ; simp; done) | refine RowAt.alloc ?_ _ | refine RowAt.drew ?_))
    · (repeat (first | (refine RowAt.fresh ?_ ; simp; done) | refine RowAt.alloc ?_ _ | refine RowAt.drew ?_))
    · (repeat (first | (refine RowAt.fresh ?_ ; simp; done) | refine RowAt.alloc ?_ _ | refine RowAt.drew ?_))
    all_goals (first | omega | (simp; done) | (simp; omega))
end Go.Proofs.Ytffcambjdlkfbaa
