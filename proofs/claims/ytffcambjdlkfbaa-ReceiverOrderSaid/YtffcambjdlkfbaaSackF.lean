/- Contracts of the map of chunks (package sack): Missing, over any map of 1 to 256 chunks. -/
import Derived.Test.YtffcambjdlkfbaaSackE
namespace Go.Proofs.Ytffcambjdlkfbaa
open Go.RowKit

theorem Try.info3 : (Try.prog.info? 3).map (fun i => (i.zero, i.size, i.bytes)) = some (some (.int .i64 0), 1, 8) := by kernel_rfl

/-- What Missing leaves: a slice of the call's own that reads as the list. -/
def IntsPost (xs : List Int) (w : World) (e : Ending) (w' : World) : Prop :=
  ∃ v, e = .returned v ∧ w'.ownsRow w.heap.size 3 1 v xs.length (xs.map (Value.int .i64)) ∧ Keeps [] w w'

theorem min_succ (l : List Bool) (k : Nat) (h : k < l.length) : min (k + 1) l.length = k + 1 ∧ min k l.length = k := by omega

set_option maxRecDepth 100000 in
theorem missing_any (b : Nat) (l : List Bool) (a t : Int) (w : World) (hm : MapAt w b l) :
    Calls Try.prog 23 #[ptr b, .int .i64 a, .int .i64 t] w (IntsPost (missL l a t) w) := by
  have hle := hm.2.1
  obtain ⟨i0, hi, hz0, hz1, hz2⟩ := info_parts Try.info3
  generalize hB : w.heap.size = B
  have HB := Lib.hid hB; clear hB
  go_enter Try.func23, Try.ntmps23
  go_upto_region 1 with fail
  go_cut [7] (fun v wx => wx = w ∧ ∃ n0 : Nat, v = .int .i64 n0 ∧ ((n0 : Int) ≤ a ∨ n0 = 0) ∧ a ≤ (n0 : Int))
  case first =>
    by_cases h : a < 0
    · go_wp2_with fail
      go_meet
      exact ⟨rfl, 0, rfl, Or.inr rfl, by omega⟩
    · obtain ⟨n0, rfl⟩ := Int.eq_ofNat_of_zero_le (show 0 ≤ a by omega)
      go_wp2_with fail
      go_meet
      exact ⟨rfl, n0, rfl, Or.inl (Int.le_refl _), Int.le_refl _⟩
  case rest =>
    obtain ⟨rfl, n0, rfl, hn0⟩ := hcut
    have HN0 := Lib.hid hn0; clear hn0
    have HM := Lib.hid hm; clear hm
    go_wp2_with fail
    go_loopw [6, 7] (fun v c wr => ∃ k : Nat, c = .int .i64 k ∧ wr.ownsRow B 3 1 v (missTo l a t (min k l.length)).length ((missTo l a t (min k l.length)).map (Value.int .i64)) ∧ MapAt wr b l ∧ Keeps [] wc wr ∧ (a ≤ (k : Int))) (fun _ c _ => l.length - (intOf c).toNat)
    case atStart =>
      have e : missTo l a t (min n0 l.length) = [] := missTo_low l a t _ (by have := HN0.out; omega)
      exact ⟨n0, rfl, by rw [e]; exact World.ownsRow_nil _ _ _ _, HM.out, Keeps.refl _ _, by have := HN0.out; omega⟩
    case round =>
      obtain ⟨k, rfl, hown, hm, hkp, hka⟩ := hrel
      have HL := Lib.hid hka; clear hka
      have hlen := missTo_length l a t (min k l.length)
      have hBle : B ≤ wr.heap.size := by have := hkp.size; rw [HB.out] at this; exact this
      by_cases hlt : k < l.length ∧ (k : Int) < t
      · obtain ⟨hlt, hkt⟩ := hlt
        have hmin : min k l.length = k := by omega
        rw [hmin] at hown hlen
        have hsucc := missTo_succ l a t k
        have hmin2 : min (k + 1) l.length = k + 1 := by omega
        cases hb : at' l k with
        | true =>
          have hh : hasL l k = true := by rw [hasL_nat, hb]
          have HH := Lib.hid hh; clear hh
          rw [hb] at hsucc
          simp only [Bool.true_eq_false, and_false, if_false, List.append_nil] at hsucc
          rw [← hsucc, ← hmin2] at hown
          have hown := Lib.hid hown
          have hkp := Lib.hid hkp
          clear hsucc hmin hmin2 hb
          go_wp2_with (first | (go_at_call 25; refine (len_any _ _ _ hm).mono ?_; rintro e w' ⟨rfl, rfl⟩) | (go_at_call 14; refine (has_any _ _ _ _ hm).mono ?_; rintro e w' ⟨rfl, rfl⟩; rw [HH.out]))
          all_goals go_roundw
          case rel => exact ⟨k + 1, by go_num, hown.out, hm, hkp.out, by have := HL.out; omega⟩
          case measure => simp [intOf]; omega
        | false =>
          have hh : hasL l k = false := by rw [hasL_nat, hb]
          have HH := Lib.hid hh; clear hh
          have hsucc2 : missTo l a t (k + 1) = missTo l a t k ++ [(k : Int)] := by
            rw [hsucc, hb]
            congr 1
            have : a ≤ (k : Int) := HL.out
            rw [if_pos ⟨this, hkt, rfl⟩]
          have HS := Lib.hid hsucc2; clear hsucc2 hsucc hb
          have HM2 := Lib.hid hmin2; clear hmin2 hmin
          have hm := Lib.hid hm
          rename_i hm0
          have hm2 := hm0
          clear hm0
          have hcell : ∀ (j : Nat) (u : Value), [Value.int .i64 (k : Int)][j]? = some u → (wr.alloc (.cells #[.int .i64 (k : Int)] 3)).cell? ((⟨wr.heap.size, 0, none⟩ : Addr).add j) = some u := fun j u hj => by
            match j, hj with
            | 0, hj => simp at hj; subst hj; simp [Addr.add]
          have HC := Lib.hid hcell; clear hcell
          have HOne := Lib.hid (show ∀ u ∈ [Value.int .i64 (k : Int)], u.oneCell' = true from fun u hu => by simp at hu; subst hu; rfl)
          have H3 := Lib.hid (show (missTo l a t k).length + 1 ≤ maxLen from by unfold maxLen; omega)
          have H4 := Lib.hid (show ((missTo l a t k).length + 1) * 8 ≤ 140737488355328 from by omega)
          have H5 := Lib.hid (show B ≤ (wr.alloc (.cells #[.int .i64 (k : Int)] 3)).heap.size from by simp; omega)
          have hown := Lib.hid hown
          rename_i hown0
          clear hown0
          generalize hxs : missTo l a t k = xs at *
          have HXS := Lib.hid hxs; clear hxs
          go_wp2_with (first | (go_at_call 25; refine (len_any _ _ _ hm2).mono ?_; rintro e w' ⟨rfl, rfl⟩) | (go_at_call 14; refine (has_any _ _ _ _ hm2).mono ?_; rintro e w' ⟨rfl, rfl⟩; rw [HH.out]) | (at_builtin; refine wpList_append_own _ rfl _ _ 40 rfl B 3 i0 (.int .i64 0) 1 8 Try.underlying40 hi hz0 hz1 hz2 rfl (by decide) _ _ _ rfl (hown.out.alloc _) ⟨wr.heap.size, 0, none⟩ 1 1 [.int .i64 k] rfl rfl HC.out HOne.out H3.out H4.out H5.out ?_; intro v' w1 hown' hgrow _; have hown' := Lib.hid hown'; have hgrow := Lib.hid hgrow))
          have K1 : Keeps [] wc w1 := (hkp.alloc _).grown hgrow.out (fun j hj => Or.inr (by rw [HB.out]; exact (hown.out.lt j hj).1))
          have hR : w1.ownsRow B 3 1 v' (missTo l a t (min (k + 1) l.length)).length ((missTo l a t (min (k + 1) l.length)).map (Value.int .i64)) := by
            rw [HM2.out, HS.out, List.length_append, List.map_append]; exact hown'.out
          go_roundw
          case rel => exact ⟨k + 1, by go_num, hR, HM.out.keeps K1 (by simp), K1, by have := HL.out; omega⟩
          case measure => simp [intOf]; omega
      · have hfin : missTo l a t (min k l.length) = missL l a t := by
          unfold missL
          rcases Nat.lt_or_ge k l.length with h | h
          · have e : min k l.length = k := by omega
            rw [e]
            have := missTo_high l a t k (by omega) (l.length - k)
            rw [show k + (l.length - k) = l.length from by omega] at this
            exact this.symm
          · rw [show min k l.length = l.length from by omega]
        rw [hfin] at hown
        have hown := Lib.hid hown
        have hkp := Lib.hid hkp
        clear hfin hlen
        go_wp2_with (first | (go_at_call 25; refine (len_any _ _ _ hm).mono ?_; rintro e w' ⟨rfl, rfl⟩))
        all_goals
          go_ret
          exact ⟨_, rfl, by rw [HB.out]; exact hown.out, hkp.out⟩
end Go.Proofs.Ytffcambjdlkfbaa
