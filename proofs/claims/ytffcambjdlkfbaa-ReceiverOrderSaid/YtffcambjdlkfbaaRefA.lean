/- Contracts of the reference of layer 12 (signpostref12): Base, Count, Behind, Missing, Same over any slice of bools that is not nil. Behind and Missing ask at most 1000 of them. -/
import Derived.Test.YtffcambjdlkfbaaSackF
namespace Go.Proofs.Ytffcambjdlkfbaa
open Go.RowKit

/-- The bools from the head of block g on are l. -/
def BoolsAt (w : World) (g cap : Nat) (l : List Bool) : Prop := w.ownsRow 0 4 1 (.slice (some ⟨g, 0, none⟩) l.length cap) l.length (l.map Value.bool)
abbrev bslice (g cap : Nat) (l : List Bool) : Value := .slice (some ⟨g, 0, none⟩) l.length cap

theorem owns_mono {w : World} {B B' : Nat} {e : TypeId} {size : Nat} {v : Value} {n : Nat} {xs : List Value} (h : w.ownsRow B e size v n xs) (hB : B' ≤ B) : w.ownsRow B' e size v n xs := by
  obtain ⟨h1, h2⟩ := h
  refine ⟨h1, ?_⟩
  rcases h2 with h2 | ⟨g, cap, cur, hv, hg, r⟩
  · exact .inl h2
  · exact .inr ⟨g, cap, cur, hv, Nat.le_trans hB hg, r⟩

section
variable {w w' : World} {g cap : Nat} {l : List Bool}
theorem BoolsAt.cell (h : BoolsAt w g cap l) (i : Nat) (hi : i < l.length) : w.cell? ⟨g, i, none⟩ = some (.bool (at' l i)) := by
  rw [World.ownsRow.cellAt h i (by omega), List.getElem?_map, List.getElem?_eq_getElem hi, at'_get hi]; rfl
theorem BoolsAt.free (h : BoolsAt w g cap l) (i : Nat) : w.frozen? ⟨g, i, none⟩ = false := World.ownsRow.frozenAt h i
theorem BoolsAt.set (h : BoolsAt w g cap l) (i : Nat) (b : Bool) : BoolsAt (w.setCell ⟨g, i, none⟩ (.bool b)) g cap (l.set i b) := by
  have := World.ownsRow.stored h i (.bool b)
  unfold BoolsAt
  rw [List.length_set, List.map_set]
  exact this.1
theorem BoolsAt.lt (h : BoolsAt w g cap l) : g < w.heap.size := (World.ownsRow.lt h g rfl).2
theorem BoolsAt.keeps {S : List Nat} (h : BoolsAt w g cap l) (k : Keeps S w w') (hg : g ∉ S) : BoolsAt w' g cap l := k.owns h (fun j hj => by simp [Value.ownBlock] at hj; subst hj; exact hg)
theorem BoolsAt.len (h : BoolsAt w g cap l) : l.length ≤ cap ∧ cap ≤ maxLen := by
  obtain ⟨_, h2⟩ := h
  rcases h2 with ⟨h2, _⟩ | ⟨g', cap', cur, hv, _, _, a, b, _⟩
  · cases h2
  · cases hv; exact ⟨a, b⟩
end

theorem rbase_any (g cap : Nat) (l : List Bool) (w : World) (hb : BoolsAt w g cap l) : Calls Try.prog 16 #[bslice g cap l] w fun e w' => e = .returned (.int .i64 (baseL l)) ∧ w = w' := by
  have hl := hb.len
  unfold maxLen at hl
  obtain ⟨hl1, hl2⟩ := hl
  go_enter Try.func16, Try.ntmps16
  go_wp2_with fail
  go_loop [3] (fun i => ∃ k : Nat, k ≤ l.length ∧ i = .int .i64 k ∧ ∀ j, j < k → at' l j = true) (fun i => l.length - (intOf i).toNat)
  case atStart => exact ⟨0, Nat.zero_le _, rfl, fun j hj => by omega⟩
  case round =>
    obtain ⟨k, hk, rfl, hall⟩ := hrel
    have HA := Lib.hid hall; clear hall
    by_cases hlt : k < l.length
    · have hc := hb.cell k hlt
      cases hq : at' l k with
      | true =>
        rw [hq] at hc
        have HQ := Lib.hid hq; clear hq
        go_wp2_with fail
        go_round
        case rel => exact ⟨k + 1, by omega, by go_num, fun j hj => by
          rcases Nat.lt_or_ge j k with h | h
          · exact HA.out j h
          · obtain rfl : j = k := by omega
            exact HQ.out⟩
        case measure => simp [intOf]; omega
      | false =>
        rw [hq] at hc
        have HQ := Lib.hid hq; clear hq
        go_wp2_with fail
        go_ret
        exact ⟨ret_int (by rw [baseL_eq hk HA.out (Or.inr HQ.out)]), rfl⟩
    · obtain rfl : k = l.length := by omega
      go_wp2_with fail
      go_ret
      exact ⟨ret_int (by rw [baseL_eq hk HA.out (Or.inl rfl)]), rfl⟩

theorem rcount_any (g cap : Nat) (l : List Bool) (w : World) (hb : BoolsAt w g cap l) : Calls Try.prog 18 #[bslice g cap l] w fun e w' => e = .returned (.int .i64 (countL l)) ∧ w = w' := by
  have hl := hb.len
  unfold maxLen at hl
  obtain ⟨hl1, hl2⟩ := hl
  go_enter Try.func18, Try.ntmps18
  go_wp2_with fail
  go_loop [3, 4] (fun n i => ∃ k : Nat, k ≤ l.length ∧ i = .int .i64 k ∧ n = .int .i64 (countL (l.take k))) (fun _ i => l.length - (intOf i).toNat)
  case atStart => exact ⟨0, Nat.zero_le _, rfl, rfl⟩
  case round =>
    obtain ⟨k, hk, rfl, rfl⟩ := hrel
    have hcl : countL (l.take k) ≤ k := Nat.le_trans (countL_le _) (List.length_take_le _ _)
    by_cases hlt : k < l.length
    · have hc := hb.cell k hlt
      have hsn := countL_snoc l k hlt
      cases hq : at' l k with
      | true =>
        rw [hq] at hc
        have HS := Lib.hid (show countL (l.take (k + 1)) = countL (l.take k) + 1 from by rw [hsn, hq]; simp)
        clear hq hsn
        go_wp2_with fail
        go_round
        case rel => exact ⟨k + 1, by omega, by go_num, by rw [HS.out]; go_num⟩
        case measure => simp [intOf]; omega
      | false =>
        rw [hq] at hc
        have HS := Lib.hid (show countL (l.take (k + 1)) = countL (l.take k) from by rw [hsn, hq]; simp)
        clear hq hsn
        go_wp2_with fail
        go_round
        case rel => exact ⟨k + 1, by omega, by go_num, by rw [HS.out]⟩
        case measure => simp [intOf]; omega
    · obtain rfl : k = l.length := by omega
      go_wp2_with fail
      go_ret
      exact ⟨by first | rfl | exact ret_int (by rw [List.take_length]), rfl⟩

theorem add_byte (x k : Nat) (hk : k < 8) (hx : x < 2 ^ k) : ((x : Int) + 2 ^ k) % 256 = ((x + 2 ^ k : Nat) : Int) := by
  have hlt : 2 ^ k < 2 ^ 8 := Nat.pow_lt_pow_right (by omega) hk
  have h2 : x + 2 ^ k < 256 := by
    have : 2 ^ k ≤ 2 ^ 7 := Nat.pow_le_pow_right (by omega) (by omega)
    omega
  have e2 : ((2 : Int) ^ k) = ((2 ^ k : Nat) : Int) := by simp
  rw [e2]
  generalize 2 ^ k = y at *
  omega

set_option maxRecDepth 100000 in
theorem rbehind_any (g cap : Nat) (l : List Bool) (k : Int) (w : World) (hb : BoolsAt w g cap l) (hle : l.length ≤ 1000) : Calls Try.prog 21 #[bslice g cap l, .int .i64 k] w (BehindPost l k w) := by
  have hbl := baseL_le l
  have hups : upTo256 k ≤ 256 := by unfold upTo256; omega
  go_enter Try.func21, Try.ntmps21
  go_upto_region 1 with fail
  go_cut [1] (fun v wx => wx = w ∧ v = .int .i64 (upTo256 k))
  case first =>
    by_cases a : k < 0
    · go_wp2_with fail
      go_meet
      exact ⟨rfl, by unfold upTo256; congr 1; omega⟩
    · by_cases c : k ≤ 256
      · go_wp2_with fail
        go_meet
        exact ⟨rfl, by unfold upTo256; congr 1; omega⟩
      · go_wp2_with fail
        go_meet
        exact ⟨rfl, by unfold upTo256; congr 1; omega⟩
  case rest =>
    obtain ⟨rfl, rfl⟩ := hcut
    generalize hkk : upTo256 k = kk at *
    have hmk := fun u : World => make_bytes u ((kk + 7) / 8) (((kk : Int) + 7) / 8) (by omega) (by omega)
    have HK := Lib.hid hkk; clear hkk
    go_wp2_with (go_at_call 16; refine (rbase_any _ _ l _ (hb.keeps ((Keeps.refl [] _).alloc _) (by simp))).mono ?_; rintro e w' ⟨rfl, rfl⟩)
    have hnew := RowAt.new wc 5 (byteVals (List.replicate ((kk + 7) / 8) 0))
    have HNew := Lib.hid hnew; clear hnew
    have HM := Lib.hid hb; clear hb
    clear hmk
    generalize hG : wc.heap.size = g2 at *
    have HG := Lib.hid hG; clear hG
    go_loopw [7] (fun c wr => ∃ k : Nat, k ≤ kk ∧ c = .int .i64 k ∧ RowAt wr g2 5 (byteVals (accB (gB l) k ((kk + 7) / 8))) ∧ BoolsAt wr g cap l ∧ Keeps [] wc wr) (fun c _ => kk - (intOf c).toNat)
    case atStart => exact ⟨0, Nat.zero_le _, rfl, by rw [accB_zero]; exact HNew.out, HM.out.keeps ((Keeps.refl [] _).alloc _) (by simp), (Keeps.refl [] _).alloc _⟩
    case round =>
      obtain ⟨c, hc, rfl, hrow, hm, hkp⟩ := hrel
      have hkp := Lib.hid hkp
      by_cases hlt : c < kk
      · cases hb : gB l c with
        | false =>
          have HB := Lib.hid hb
          have hrow := Lib.hid hrow
          by_cases hin : baseL l + 1 + c < l.length
          · have hcell := hm.cell (baseL l + 1 + c) hin
            unfold gB at hb
            rw [hb] at hcell
            clear hb
            have hm := Lib.hid hm
            rename_i hm0
            clear hm0
            go_wp2_with fail
            go_roundw
            case rel => exact ⟨c + 1, by omega, by go_num, by rw [accB_skip _ _ _ HB.out]; exact hrow.out, hm.out, hkp.out⟩
            case measure => simp [intOf]; omega
          · clear hb
            have hm := Lib.hid hm
            rename_i hm0
            clear hm0
            go_wp2_with fail
            go_roundw
            case rel => exact ⟨c + 1, by omega, by go_num, by rw [accB_skip _ _ _ HB.out]; exact hrow.out, hm.out, hkp.out⟩
            case measure => simp [intOf]; omega
        | true =>
          have hin : baseL l + 1 + c < l.length := at'_lt hb
          have hst := byteAt_step (gB l) c hb
          have hcell : wr.cell? ⟨g2, c / 8, none⟩ = some (.int .u8 (byteAt (gB l) c (c / 8) : Nat)) := by
            rw [hrow.cell, byteVals_get, accB_get _ _ _ _ (by omega)]; rfl
          have hfree := hrow.free (c / 8)
          have hset := hrow.set (c / 8) (.int .u8 ((byteAt (gB l) c (c / 8) + 2 ^ (c % 8) : Nat) : Int))
          rw [byteVals_set, ← accB_set (gB l) c _ hb] at hset
          have hor := add_byte _ (c % 8) (Nat.mod_lt _ (by omega)) hst.1
          have HSet := Lib.hid hset; clear hset
          have hcell2 := hm.cell (baseL l + 1 + c) hin
          unfold gB at hb
          rw [hb] at hcell2
          have HB := Lib.hid hb; clear hb
          have HSt := Lib.hid hst; clear hst
          have HOr := Lib.hid hor; clear hor
          have hrow := Lib.hid hrow
          generalize byteAt (gB l) c (c / 8) = x at *
          go_wp2_with fail
          go_region
          all_goals go_wp2
          rw [HOr.out]
          have hne : g ≠ g2 := by have := HM.out.lt; rw [HG.out] at this; exact Nat.ne_of_lt this
          have hk2 := (hkp.out.setCell (p := ⟨g2, c / 8, none⟩) (Or.inr (by rw [HG.out]; exact Nat.le_refl _)) (.int .u8 ((x + 2 ^ (c % 8) : Nat) : Int)))
          have hk3 := ((Keeps.refl [g2] wr).setCell (p := ⟨g2, c / 8, none⟩) (Or.inl (List.mem_singleton.2 rfl)) (.int .u8 ((x + 2 ^ (c % 8) : Nat) : Int))).drew
          go_roundw
          case rel => exact ⟨c + 1, by omega, by go_num, HSet.out, hm.keeps hk3 (by simpa using hne), hk2.drew⟩
          case measure => simp [intOf]; omega
      · obtain rfl : c = kk := by omega
        have hcv := convert_row (P := Try.prog) 94 5 Try.underlying94 Try.underlying5 9 Try.underlying9 wr g2 5 _ ((c + 7) / 8) hrow
        rw [accB_length] at hcv
        have hrow := Lib.hid hrow
        have hm := Lib.hid hm
        have hfin : behindL l (upTo256 k) = List.map UInt8.ofNat (accB (gB l) c ((c + 7) / 8)) := by rw [HK.out]; rfl
        rw [← hfin] at hcv
        generalize hout : behindL l (upTo256 k) = out at *
        have HO := Lib.hid hout; clear hout
        clear hfin
        go_wp2_with fail
        go_ret
        exact ⟨ret_str (by rw [HO.out]), hkp.out⟩

set_option maxRecDepth 100000 in
/-- Missing. -/
theorem rmissing_any (g cap : Nat) (l : List Bool) (a t : Int) (w : World) (hb : BoolsAt w g cap l) (hle : l.length ≤ 1000) :
    Calls Try.prog 24 #[bslice g cap l, .int .i64 a, .int .i64 t] w (IntsPost (missL l a t) w) := by
  obtain ⟨i0, hi, hz0, hz1, hz2⟩ := info_parts Try.info3
  generalize hB : w.heap.size = B
  have HB := Lib.hid hB; clear hB
  go_enter Try.func24, Try.ntmps24
  go_wp2_with fail
  have HM := Lib.hid hb; clear hb
  go_loopw [7, 8] (fun v c wr => ∃ k : Nat, k ≤ l.length ∧ c = .int .i64 k ∧ wr.ownsRow B 3 1 v (missTo l a t k).length ((missTo l a t k).map (Value.int .i64)) ∧ Keeps [] w wr) (fun _ c _ => l.length - (intOf c).toNat)
  case atStart => exact ⟨0, Nat.zero_le _, rfl, World.ownsRow_nil _ _ _ _, Keeps.refl _ _⟩
  case round =>
    obtain ⟨k, hk, rfl, hown, hkp⟩ := hrel
    have hlen := missTo_length l a t k
    have hBle : B ≤ wr.heap.size := by have := hkp.size; rw [HB.out] at this; exact this
    by_cases hlt : k < l.length
    · have hsucc := missTo_succ l a t k
      have hcell := (HM.out.keeps hkp (by simp)).cell k hlt
      by_cases hin : a ≤ (k : Int) ∧ (k : Int) < t ∧ at' l k = false
      · rw [if_pos hin] at hsucc
        obtain ⟨h1, h2, h3⟩ := hin
        rw [h3] at hcell
        have HS := Lib.hid hsucc; clear hsucc h3
        have hnew : ∀ (j : Nat) (u : Value), [Value.int .i64 (k : Int)][j]? = some u → (wr.alloc (.cells #[.int .i64 (k : Int)] 3)).cell? ((⟨wr.heap.size, 0, none⟩ : Addr).add j) = some u := fun j u hj => by
          match j, hj with
          | 0, hj => simp at hj; subst hj; simp [Addr.add]
        have HC := Lib.hid hnew; clear hnew
        have HOne := Lib.hid (show ∀ u ∈ [Value.int .i64 (k : Int)], u.oneCell' = true from fun u hu => by simp at hu; subst hu; rfl)
        have H3 := Lib.hid (show (missTo l a t k).length + 1 ≤ maxLen from by unfold maxLen; omega)
        have H4 := Lib.hid (show ((missTo l a t k).length + 1) * 8 ≤ 140737488355328 from by omega)
        have H5 := Lib.hid (show B ≤ (wr.alloc (.cells #[.int .i64 (k : Int)] 3)).heap.size from by simp; omega)
        have hown := Lib.hid hown
        rename_i hown0
        clear hown0
        have hkp := Lib.hid hkp
        rename_i hkp0
        clear hkp0
        generalize hxs : missTo l a t k = xs at *
        have HXS := Lib.hid hxs; clear hxs
        go_wp2_with (first | (at_builtin; refine wpList_append_own _ rfl _ _ 40 rfl B 3 i0 (.int .i64 0) 1 8 Try.underlying40 hi hz0 hz1 hz2 rfl (by decide) _ _ _ rfl (hown.out.alloc _) ⟨wr.heap.size, 0, none⟩ 1 1 [.int .i64 k] rfl rfl HC.out HOne.out H3.out H4.out H5.out ?_; intro v' w1 hown' hgrow _; have hown' := Lib.hid hown'; have hgrow := Lib.hid hgrow))
        have K1 : Keeps [] w w1 := (hkp.out.alloc _).grown hgrow.out (fun j hj => Or.inr (by rw [HB.out]; exact (hown.out.lt j hj).1))
        have hR : w1.ownsRow B 3 1 v' (missTo l a t (k + 1)).length ((missTo l a t (k + 1)).map (Value.int .i64)) := by
          rw [HS.out, List.length_append, List.map_append]; exact hown'.out
        go_roundw
        case rel => exact ⟨k + 1, by omega, by go_num, hR, K1⟩
        case measure => simp [intOf]; omega
      · rw [if_neg hin, List.append_nil] at hsucc
        rw [← hsucc] at hown
        have hown := Lib.hid hown
        rename_i hown0
        clear hown0 hsucc
        have hkp := Lib.hid hkp
        rename_i hkp0
        clear hkp0
        rcases Int.lt_or_le (k : Int) a with h1 | h1
        · clear hin
          go_wp2_with fail
          go_roundw
          case rel => exact ⟨k + 1, by omega, by go_num, hown.out, hkp.out⟩
          case measure => simp [intOf]; omega
        · rcases Int.lt_or_le (k : Int) t with h2 | h2
          · have h3 : at' l k = true := by
              cases e : at' l k with
              | true => rfl
              | false => exact absurd ⟨h1, h2, e⟩ hin
            rw [h3] at hcell
            clear hin h3
            go_wp2_with fail
            go_roundw
            case rel => exact ⟨k + 1, by omega, by go_num, hown.out, hkp.out⟩
            case measure => simp [intOf]; omega
          · clear hin
            go_wp2_with fail
            go_roundw
            case rel => exact ⟨k + 1, by omega, by go_num, hown.out, hkp.out⟩
            case measure => simp [intOf]; omega
    · obtain rfl : k = l.length := by omega
      have hown := Lib.hid hown
      have hkp := Lib.hid hkp
      go_wp2_with fail
      go_ret
      exact ⟨_, rfl, by rw [HB.out]; exact hown.out, hkp.out⟩

theorem same_nil (v u : Value) (w : World) (hv : v = .slice none 0 0 ∨ ∃ a c, v = .slice (some a) 0 c) (hu : u = .slice none 0 0 ∨ ∃ a c, u = .slice (some a) 0 c) :
    Calls Try.prog 22 #[v, u] w fun e w' => e = .returned (.bool true) ∧ w = w' := by
  rcases hv with rfl | ⟨a, c, rfl⟩ <;> rcases hu with rfl | ⟨a', c', rfl⟩
  all_goals
    go_enter Try.func22, Try.ntmps22
    go_wp2_with fail
    refine wp_loop_rounds 1 ?_
    rw [rounds_succ]
    go_wp2_with fail
    go_ret
    exact ⟨rfl, rfl⟩

theorem same_some (g o cap g' o' cap' : Nat) (xs : List Int) (w : World) (h1 : xs.length ≤ cap) (h2 : cap ≤ maxLen) (h3 : ∀ i u, (xs.map (Value.int .i64))[i]? = some u → w.cell? ⟨g, o + i, none⟩ = some u)
    (h4 : ∀ i u, (xs.map (Value.int .i64))[i]? = some u → w.cell? ⟨g', o' + i, none⟩ = some u) :
    Calls Try.prog 22 #[.slice (some ⟨g, o, none⟩) xs.length cap, .slice (some ⟨g', o', none⟩) xs.length cap'] w fun e w' => e = .returned (.bool true) ∧ ∃ n, w.drewN n = w' := by
  unfold maxLen at h2
  have HC := Lib.hid h3; clear h3
  have HD := Lib.hid h4; clear h4
  go_enter Try.func22, Try.ntmps22
  go_wp2_with fail
  go_loopw [5] (fun i wr => ∃ k : Nat, k ≤ xs.length ∧ i = .int .i64 k ∧ ∃ n, w.drewN n = wr) (fun i _ => xs.length - (intOf i).toNat)
  case atStart => exact ⟨0, Nat.zero_le _, rfl, 0, rfl⟩
  case round =>
    obtain ⟨k, hk, rfl, n, rfl⟩ := hrel
    by_cases hlt : k < xs.length
    · have c1 := HC.out k (.int .i64 (xs[k])) (by rw [List.getElem?_map, List.getElem?_eq_getElem hlt]; rfl)
      have c2 := HD.out k (.int .i64 (xs[k])) (by rw [List.getElem?_map, List.getElem?_eq_getElem hlt]; rfl)
      generalize xs[k] = y at *
      go_wp2_with fail
      go_quiet (fail)
      go_wp2_with fail
      go_roundw
      case rel => exact ⟨k + 1, by omega, by go_num, n + nq, rfl⟩
      case measure => simp [intOf]; omega
    · obtain rfl : k = xs.length := by omega
      go_wp2_with fail
      go_ret
      exact ⟨rfl, n, rfl⟩

/-- Same, of two slices that read alike: true. -/
theorem same_yes (v u : Value) (xs : List Int) (w : World) (hv : Reads w v (xs.map (Value.int .i64))) (hu : Reads w u (xs.map (Value.int .i64))) :
    Calls Try.prog 22 #[v, u] w fun e w' => e = .returned (.bool true) ∧ ∃ n, w.drewN n = w' := by
  cases xs with
  | nil =>
    refine (same_nil v u w ?_ ?_).mono fun e w' ⟨h1, h2⟩ => ⟨h1, 0, h2⟩
    · rcases hv with ⟨rfl, _⟩ | ⟨g, o, cap, rfl, _⟩
      · exact .inl rfl
      · exact .inr ⟨_, _, rfl⟩
    · rcases hu with ⟨rfl, _⟩ | ⟨g, o, cap, rfl, _⟩
      · exact .inl rfl
      · exact .inr ⟨_, _, rfl⟩
  | cons x r =>
    rcases hv with ⟨_, h⟩ | ⟨g, o, cap, rfl, h1, h2, h3⟩
    · cases h
    · rcases hu with ⟨_, h⟩ | ⟨g', o', cap', rfl, h1', h2', h3'⟩
      · cases h
      · rw [List.length_map] at *
        exact same_some g o cap g' o' cap' (x :: r) w h1 h2 h3 h3'
end Go.Proofs.Ytffcambjdlkfbaa
