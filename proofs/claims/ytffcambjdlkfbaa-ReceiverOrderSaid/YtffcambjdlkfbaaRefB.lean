/- Contract of the reference of layer 12 (signpostref12): Merge over any slice of 1 to 1000 bools and any text of at most 1000 bytes. -/
import Derived.Test.YtffcambjdlkfbaaRefA
namespace Go.Proofs.Ytffcambjdlkfbaa
open Go.RowKit

theorem Try.info4 : (Try.prog.info? 4).map (fun i => (i.zero, i.size, i.bytes)) = some (some (.bool false), 1, 1) := by kernel_rfl

/-- What the reference's Merge leaves: a slice of its own. -/
def RMergePost (l : List Bool) (base : Int) (s : ByteArray) (w : World) (e : Ending) (w' : World) : Prop :=
  ∃ g cap, e = .returned (.tuple #[bslice g cap (laid l (toldAt base s) l.length), .int .i64 (newOnes l (toldAt base s) l.length)]) ∧
    BoolsAt w' g cap (laid l (toldAt base s) l.length) ∧ w.heap.size ≤ g ∧ Keeps [] w w'

theorem rem2_byte (x k : Nat) : ((x : Int) / 2 ^ k).tmod 2 = if x.testBit k = true then 1 else 0 := by
  have e : ((x : Int) / 2 ^ k) = ((x / 2 ^ k : Nat) : Int) := by simp
  rw [e, Int.tmod_eq_emod_of_nonneg (Int.natCast_nonneg _), Nat.testBit_eq_decide_div_mod_eq]
  by_cases h : x / 2 ^ k % 2 = 1
  · simp only [h, decide_true, if_true]; omega
  · simp only [h, decide_false, Bool.false_eq_true, if_false]; omega

/-- A slice that owns something is not nil: its head and its capacity. -/
theorem owns_some {w : World} {B : Nat} {e : TypeId} {v : Value} {n : Nat} {xs : List Value} (h : w.ownsRow B e 1 v n xs) (hn : 0 < n) : ∃ g cap, v = .slice (some ⟨g, 0, none⟩) n cap ∧ B ≤ g := by
  obtain ⟨_, h2⟩ := h
  rcases h2 with ⟨_, h0⟩ | ⟨g, cap, cur, hv, hg, _⟩
  · omega
  · exact ⟨g, cap, hv, hg⟩

theorem owns_made (w : World) (e : TypeId) : (w.alloc (.cells #[] e)).ownsRow w.heap.size e 1 (.slice (some ⟨w.heap.size, 0, none⟩) 0 0) 0 [] :=
  World.ownsRow_made w #[] 0 (Nat.le_refl _) (by unfold maxLen; omega) rfl

set_option maxRecDepth 100000 in
theorem rmerge_any (g cap : Nat) (l : List Bool) (base : Int) (s : ByteArray) (w : World) (hb : BoolsAt w g cap l) (h1 : 1 ≤ l.length) (hle : l.length ≤ 1000) (hs : s.size ≤ 1000) :
    Calls Try.prog 12 #[bslice g cap l, .int .i64 base, .string s] w (RMergePost l base s w) := by
  obtain ⟨i0, hi, hz0, hz1, hz2⟩ := info_parts Try.info4
  generalize hB : w.heap.size = B
  have hmade := owns_made w 4
  have hKa : Keeps [] w (w.alloc (.cells #[] 4)) := (Keeps.refl [] w).alloc _
  have hnews : ∀ (j : Nat) (u : Value), (l.map Value.bool)[j]? = some u → (w.alloc (.cells #[] 4)).cell? ((⟨g, 0, none⟩ : Addr).add j) = some u := fun j u hj => by
    have hjl : j < l.length := by
      have := (List.getElem?_eq_some_iff.1 hj).1
      simpa using this
    have hc := (hb.keeps hKa (by simp)).cell j hjl
    have e : (⟨g, 0, none⟩ : Addr).add j = ⟨g, j, none⟩ := by unfold Addr.add; split <;> simp_all
    rw [e, hc]
    rw [List.getElem?_map, List.getElem?_eq_getElem hjl] at hj
    rw [at'_get hjl]
    simpa using hj
  have hone : ∀ u ∈ l.map Value.bool, u.oneCell' = true := fun u hu => by
    obtain ⟨x, _, rfl⟩ := List.mem_map.1 hu; rfl
  have HNews := Lib.hid hnews; clear hnews
  have HOne := Lib.hid hone; clear hone
  have HMade := Lib.hid hmade; clear hmade
  have HKa := Lib.hid hKa; clear hKa
  have H3 := Lib.hid (show 0 + l.length ≤ maxLen from by unfold maxLen; omega)
  have H4 := Lib.hid (show (0 + l.length) * 1 ≤ 140737488355328 from by omega)
  have H5 := Lib.hid (show w.heap.size ≤ (w.alloc (.cells #[] 4)).heap.size from by simp)
  have HL1 := Lib.hid (show (l.map Value.bool).length = l.length * 1 from by simp)
  have HB := Lib.hid hB; clear hB
  go_enter Try.func12, Try.ntmps12
  go_wp2_with (first | (at_builtin; refine wpList_append_own _ rfl _ _ 28 rfl w.heap.size 4 i0 (.bool false) 1 1 Try.underlying28 hi hz0 hz1 hz2 rfl (by decide) _ _ _ rfl HMade.out ⟨g, 0, none⟩ l.length cap (l.map Value.bool) rfl HL1.out HNews.out HOne.out H3.out H4.out H5.out ?_; intro v' w1 hown' hgrow _; have hown' := Lib.hid hown'; have hgrow := Lib.hid hgrow; clear i0 hi hz0 hz1 hz2; obtain ⟨g2, cap2, hv, hg2⟩ := owns_some hown'.out (by omega); rw [hv]))
  have hown2 := hown'.out
  rw [hv, List.nil_append, Nat.zero_add] at hown2
  have hb2 : BoolsAt w1 g2 cap2 l := owns_mono hown2 (Nat.zero_le _)
  have hK1 : Keeps [] w w1 := HKa.out.grown hgrow.out (fun j hj => Or.inr (by have hj' : some w.heap.size = some j := hj; cases hj'; exact Nat.le_refl _))
  have HG2 := Lib.hid (show w.heap.size ≤ g2 from hg2); clear hg2
  have HK1 := Lib.hid hK1; clear hK1
  have HB2 := Lib.hid hb2; clear hb2 hown2
  have HBo := Lib.hid hb; clear hb
  clear hown' hgrow hv HNews HOne HMade HKa H3 H4 H5 HL1
  have hcl : l.length ≤ cap2 := by have := HB2.out.len; exact this.1
  have hcm : cap2 ≤ 9223372036854775807 := by have := HB2.out.len; unfold maxLen at this; exact this.2
  go_loopw [9, 10] (fun n c wr => ∃ k : Nat, k ≤ l.length ∧ c = .int .i64 k ∧ n = .int .i64 (newOnes l (toldAt base s) k) ∧ BoolsAt wr g2 cap2 (laid l (toldAt base s) k) ∧ Keeps [] w wr) (fun _ c _ => l.length - (intOf c).toNat)
  case atStart => exact ⟨0, Nat.zero_le _, rfl, rfl, by rw [laid_zero]; exact HB2.out, HK1.out⟩
  case round =>
    obtain ⟨k, hk, rfl, rfl, hm, hkp⟩ := hrel
    have hno := newOnes_le l (toldAt base s) k
    have hsucc := newOnes_succ l (toldAt base s) k
    by_cases hlt : k < l.length
    · have hat := atOf_eq base k
      have hcell := hm.cell k (by rw [laid_length]; exact hlt)
      rw [at'_laid_self] at hcell
      have hfree := hm.free k
      have hskip : toldAt base s k = false ∨ at' l k = true → BoolsAt wr g2 cap2 (laid l (toldAt base s) (k + 1)) := fun ht => by rw [laid_skip _ _ _ ht]; exact hm
      have hput : toldAt base s k = true → BoolsAt (wr.setCell ⟨g2, k, none⟩ (.bool true)) g2 cap2 (laid l (toldAt base s) (k + 1)) := fun ht => by
        rw [laid_set _ _ _ hlt ht]; exact hm.set k true
      have hkput : Keeps [] w (wr.setCell ⟨g2, k, none⟩ (.bool true)) := hkp.setCell (Or.inr HG2.out) _
      have HPutK := Lib.hid hkput; clear hkput
      have hkp := Lib.hid hkp
      have hm := Lib.hid hm
      rename_i hm0
      clear hm0
      cases ht : toldAt base s k with
      | false =>
        have HSkip := Lib.hid (hskip (Or.inl ht))
        have HN := Lib.hid (show newOnes l (toldAt base s) (k + 1) = newOnes l (toldAt base s) k from by rw [hsucc, ht]; simp)
        clear hput hskip hsucc
        unfold toldAt at ht
        rcases Int.lt_or_le (k : Int) base with hb | hb
        · rw [if_pos hb] at ht; cases ht
        · rw [if_neg (by omega)] at ht
          have HT := Lib.hid ht; clear ht
          by_cases h2 : base < (k : Int) ∧ 0 ≤ atOf base k ∧ atOf base k < 8 * (s.size : Int)
          · have ht := HT.out
            rw [if_pos h2] at ht
            obtain ⟨h2, h3, h4⟩ := h2
            obtain ⟨A, hA⟩ := Int.eq_ofNat_of_zero_le h3
            rw [hA] at hat h3 h4 ht
            have h5 : A / 8 < s.size := by omega
            rw [Int.toNat_natCast, bitOf_at s A h5] at ht
            have hv := rem2_byte (s[A / 8]).toNat (A % 8)
            rw [ht] at hv
            simp only [Bool.false_eq_true, if_false] at hv
            have h6 : A < 8 * s.size := by omega
            clear h3 h4 hA ht
            go_wp2_with fail
            go_roundw
            case rel => exact ⟨k + 1, by omega, by go_num, by rw [HN.out], HSkip.out, hkp.out⟩
            case measure => simp [intOf]; omega
          · by_cases h3 : base < (k : Int)
            · rcases Int.lt_or_le (atOf base k) 0 with h4 | h4
              · generalize atOf base k = A at *
                clear h2
                go_wp2_with fail
                go_roundw
                case rel => exact ⟨k + 1, by omega, by go_num, by rw [HN.out], HSkip.out, hkp.out⟩
                case measure => simp [intOf]; omega
              · obtain ⟨A, hA⟩ := Int.eq_ofNat_of_zero_le h4
                have hAb := atOf_le base k
                rw [hA] at hat h4 h2 hAb
                have h6 : 8 * s.size ≤ A := by omega
                clear h2 h4 hA
                go_wp2_with fail
                go_roundw
                case rel => exact ⟨k + 1, by omega, by go_num, by rw [HN.out], HSkip.out, hkp.out⟩
                case measure => simp [intOf]; omega
            · clear h2
              generalize atOf base k = A at *
              go_wp2_with fail
              go_roundw
              case rel => exact ⟨k + 1, by omega, by go_num, by rw [HN.out], HSkip.out, hkp.out⟩
              case measure => simp [intOf]; omega
      | true =>
        have hput := hput ht
        have HN := Lib.hid (show newOnes l (toldAt base s) (k + 1) = newOnes l (toldAt base s) k + if at' l k = false then 1 else 0 from by rw [hsucc, ht]; simp)
        clear hsucc
        unfold toldAt at ht
        rcases Int.lt_or_le (k : Int) base with hb | hb
        · clear ht
          generalize atOf base k = A at *
          cases hq : at' l k with
          | false =>
            rw [hq] at hcell
            have HPut := Lib.hid hput; clear hput hskip
            have HQ := Lib.hid hq; clear hq
            go_wp2_with fail
            go_roundw
            case rel => exact ⟨k + 1, by omega, by go_num, by rw [HN.out, if_pos HQ.out]; go_num, HPut.out, HPutK.out⟩
            case measure => simp [intOf]; omega
          | true =>
            rw [hq] at hcell
            have HSkip := Lib.hid (hskip (Or.inr hq)); clear hput hskip
            have HQ := Lib.hid hq; clear hq
            go_wp2_with fail
            go_roundw
            case rel => exact ⟨k + 1, by omega, by go_num, by rw [HN.out, HQ.out]; go_num, HSkip.out, hkp.out⟩
            case measure => simp [intOf]; omega
        · rw [if_neg (by omega)] at ht
          by_cases h2 : base < (k : Int) ∧ 0 ≤ atOf base k ∧ atOf base k < 8 * (s.size : Int)
          · rw [if_pos h2] at ht
            obtain ⟨h2, h3, h4⟩ := h2
            obtain ⟨A, hA⟩ := Int.eq_ofNat_of_zero_le h3
            rw [hA] at hat h3 h4 ht
            have h5 : A / 8 < s.size := by omega
            rw [Int.toNat_natCast, bitOf_at s A h5] at ht
            have hv := rem2_byte (s[A / 8]).toNat (A % 8)
            rw [ht] at hv
            simp only [if_true] at hv
            have h6 : A < 8 * s.size := by omega
            clear h3 h4 hA ht
            cases hq : at' l k with
            | false =>
              rw [hq] at hcell
              have HPut := Lib.hid hput; clear hput hskip
              have HQ := Lib.hid hq; clear hq
              go_wp2_with fail
              go_roundw
              case rel => exact ⟨k + 1, by omega, by go_num, by rw [HN.out, if_pos HQ.out]; go_num, HPut.out, HPutK.out⟩
              case measure => simp [intOf]; omega
            | true =>
              rw [hq] at hcell
              have HSkip := Lib.hid (hskip (Or.inr hq)); clear hput hskip
              have HQ := Lib.hid hq; clear hq
              go_wp2_with fail
              go_roundw
              case rel => exact ⟨k + 1, by omega, by go_num, by rw [HN.out, HQ.out]; go_num, HSkip.out, hkp.out⟩
              case measure => simp [intOf]; omega
          · rw [if_neg h2] at ht; cases ht
    · obtain rfl : k = l.length := by omega
      have hkp := Lib.hid hkp
      have hm := Lib.hid hm
      clear hsucc
      go_wp2_with fail
      go_ret2
      exact ⟨g2, cap2, by unfold bslice; rw [laid_length]; rfl, hm.out, HG2.out, hkp.out⟩
end Go.Proofs.Ytffcambjdlkfbaa
