/- The reference of layer 13 (signpostref13): Few, May, New, Err. -/
import Derived.Test.YtffcambjdlkfbaaSendI
import Derived.Test.YtffcambjdlkfbaaSackP
namespace Go.Proofs.Ytffcambjdlkfbaa
open Go.RowKit

def anyOver (m : Nat) (c : List ByteArray) : Bool := c.any fun s => decide (m < s.size)

theorem anyOver_no {m : Nat} {c : List ByteArray} (h : ∀ j s, j < c.length → c[j]? = some s → s.size ≤ m) : anyOver m c = false := by
  cases hh : anyOver m c with
  | false => rfl
  | true =>
    obtain ⟨s, hs, hd⟩ := List.any_eq_true.1 hh
    obtain ⟨i, hi, rfl⟩ := List.mem_iff_getElem.1 hs
    have := h i _ hi (List.getElem?_eq_getElem hi)
    simp at hd; omega

theorem anyOver_yes {m : Nat} {c : List ByteArray} {s : ByteArray} (h : s ∈ c) (hs : m < s.size) : anyOver m c = true := List.any_eq_true.2 ⟨s, h, by simpa using hs⟩

set_option maxRecDepth 100000 in
theorem rfew_some (g o cap : Nat) (c : List ByteArray) (w : World) (hl : c.length ≤ cap) (hcap : cap ≤ 9223372036854775807) (hc : StrsAt w g o c) (hsz : ∀ s ∈ c, s.size ≤ 9223372036854775807) :
    Calls Try.prog 27 #[.slice (some ⟨g, o, none⟩) c.length cap] w fun e w' => e = .returned (.bool (!anyOver 1100 c && decide (c.length ≤ 300))) ∧ w = w' := by
  have HC := Lib.hid hc; clear hc
  have HS := Lib.hid hsz; clear hsz
  go_enter Try.func27, Try.ntmps27
  go_wp2_with fail
  go_loop [3] (fun i => ∃ k : Nat, k ≤ c.length ∧ i = .int .i64 k ∧ (∀ j s, j < k → c[j]? = some s → s.size ≤ 1100)) (fun i => c.length - (intOf i).toNat)
  case atStart => exact ⟨0, Nat.zero_le _, rfl, fun j s hj => by omega⟩
  case round =>
    obtain ⟨k, hk, rfl, hno⟩ := hrel
    have HN := Lib.hid hno; clear hno
    by_cases hlt : k < c.length
    · have hcell := HC.out k c[k] (List.getElem?_eq_getElem hlt)
      have hy := HS.out c[k] (List.getElem_mem hlt)
      have HY := Lib.hid (List.getElem?_eq_getElem hlt)
      have HM := Lib.hid (List.getElem_mem hlt)
      generalize c[k] = y at *
      by_cases hp : 1100 < y.size
      · have HA := Lib.hid (anyOver_yes HM.out hp)
        have hd : decide ((1100 : Int) < (y.size : Int)) = true := by simp; omega
        go_wp2_with fail
        go_ret
        exact ⟨ret_bool (by rw [HA.out]; simp), rfl⟩
      · have hd : decide ((1100 : Int) < (y.size : Int)) = false := by simp; omega
        go_wp2_with fail
        go_round
        case rel => exact ⟨k + 1, by omega, by go_num, fun j s hj hs => by
          rcases Nat.lt_or_ge j k with h | h
          · exact HN.out j s h hs
          · obtain rfl : j = k := by omega
            rw [HY.out] at hs; cases hs; omega⟩
        case measure => simp [intOf]; omega
    · obtain rfl : k = c.length := by omega
      have HA := Lib.hid (anyOver_no HN.out)
      go_wp2_with fail
      go_ret
      exact ⟨ret_bool (by rw [HA.out, Bool.eq_iff_iff]; simp; omega), rfl⟩

theorem rfew_zero (a : Option Addr) (cap : Nat) (w : World) : Calls Try.prog 27 #[.slice a 0 cap] w fun e w' => e = .returned (.bool true) ∧ w = w' := by
  go_enter Try.func27, Try.ntmps27
  go_wp2_with fail
  refine wp_loop_rounds 1 ?_
  rw [rounds_succ]
  go_wp2_with fail
  go_ret
  exact ⟨rfl, rfl⟩

set_option maxRecDepth 100000 in
theorem rmay_some (ses epo : Int) (g o cap : Nat) (c : List ByteArray) (w : World) (hl : c.length ≤ cap) (hcap : cap ≤ 9223372036854775807) (hc : StrsAt w g o c) (hsz : ∀ s ∈ c, s.size ≤ 9223372036854775807) (b : Bool) (hb : decide (MayS ses epo c) = b) :
    Calls Try.prog 29 #[.int .i64 ses, .int .i64 epo, .slice (some ⟨g, o, none⟩) c.length cap] w fun e w' => e = .returned (.bool b) ∧ w = w' := by
  have HC := Lib.hid hc; clear hc
  have HS := Lib.hid hsz; clear hsz
  have HB := Lib.hid hb; clear hb
  go_enter Try.func29, Try.ntmps29
  go_wp2_with fail
  go_loop [7] (fun i => ∃ k : Nat, k ≤ c.length ∧ i = .int .i64 k ∧ (∀ j s, j < k → c[j]? = some s → s.size ≤ 1000)) (fun i => c.length - (intOf i).toNat)
  case atStart => exact ⟨0, Nat.zero_le _, rfl, fun j s hj => by omega⟩
  case round =>
    obtain ⟨k, hk, rfl, hno⟩ := hrel
    have HN := Lib.hid hno; clear hno
    by_cases hlt : k < c.length
    · have hcell := HC.out k c[k] (List.getElem?_eq_getElem hlt)
      have hy := HS.out c[k] (List.getElem_mem hlt)
      have HY := Lib.hid (List.getElem?_eq_getElem hlt)
      have HM := Lib.hid (List.getElem_mem hlt)
      generalize c[k] = y at *
      by_cases hp : 1000 < y.size
      · have HA := Lib.hid (show longAny c = true from anyOver_yes HM.out hp)
        have hd : decide ((1000 : Int) < (y.size : Int)) = true := by simp; omega
        go_wp2_with fail
        go_ret
        exact ⟨ret_bool (by rw [← HB.out]; symm; rw [decide_eq_false_iff_not]; unfold MayS; rw [HA.out]; simp), rfl⟩
      · have hd : decide ((1000 : Int) < (y.size : Int)) = false := by simp; omega
        go_wp2_with fail
        go_round
        case rel => exact ⟨k + 1, by omega, by go_num, fun j s hj hs => by
          rcases Nat.lt_or_ge j k with h | h
          · exact HN.out j s h hs
          · obtain rfl : j = k := by omega
            rw [HY.out] at hs; cases hs; omega⟩
        case measure => simp [intOf]; omega
    · obtain rfl : k = c.length := by omega
      have HA : longAny c = false := anyOver_no HN.out
      have HM : MayS ses epo c ↔ ((0 ≤ ses ∧ ses < 4294967296) ∧ (0 ≤ epo ∧ epo < 4294967296) ∧ 1 ≤ c.length ∧ c.length ≤ 256) := by unfold MayS; rw [HA]; simp
      have hbi : b = true ↔ ((0 ≤ ses ∧ ses < 4294967296) ∧ (0 ≤ epo ∧ epo < 4294967296) ∧ 1 ≤ c.length ∧ c.length ≤ 256) := by rw [← HB.out, decide_eq_true_iff]; exact HM
      have HM := Lib.hid hbi
      rename_i HM0
      clear HM0 HA hbi
      go_wp2_with fail
      all_goals
        go_ret
        exact ⟨ret_bool (by rw [Bool.eq_iff_iff, HM.out]; simp; omega), rfl⟩

theorem rmay_zero (ses epo : Int) (a : Option Addr) (cap : Nat) (w : World) : Calls Try.prog 29 #[.int .i64 ses, .int .i64 epo, .slice a 0 cap] w fun e w' => e = .returned (.bool false) ∧ w = w' := by
  go_enter Try.func29, Try.ntmps29
  go_wp2_with fail
  refine wp_loop_rounds 1 ?_
  rw [rounds_succ]
  go_wp2_with fail
  all_goals
    go_ret
    exact ⟨by first | rfl | exact ret_bool (by simp), rfl⟩

/-- The blocks of a reference's sender, its slices' capacities, and where its chunks (which came in) lie. -/
structure RBlk where
  b : Nat
  gi : Nat
  gt : Nat
  ga : Nat
  ci : Nat
  ct : Nat
  ca : Nat
  gx : Nat
  ox : Nat
  cx : Nat

structure RSndAt (w : World) (ρ : RBlk) (σ : Snd) : Prop where
  row : RowAt w ρ.b 67 [.int .i64 σ.ses, .int .i64 σ.epo, .slice (some ⟨ρ.gx, ρ.ox, none⟩) σ.c.length ρ.cx, bslice ρ.gi ρ.ci σ.l, sl ρ.gt σ.c.length ρ.ct, sl ρ.ga σ.c.length ρ.ca, .int .i64 σ.now, .bool σ.lost]
  bools : BoolsAt w ρ.gi ρ.ci σ.l
  strs : StrsAt w ρ.gx ρ.ox σ.c
  tr : IntsAt w ρ.gt ρ.ct σ.tr
  at_ : IntsAt w ρ.ga ρ.ca σ.at_
  cap : σ.c.length ≤ ρ.cx ∧ ρ.cx ≤ 9223372036854775807

def RBlk.all (ρ : RBlk) : List Nat := [ρ.b, ρ.gi, ρ.gt, ρ.ga, ρ.gx]
def RBlk.foot (ρ : RBlk) : List Nat := [ρ.b, ρ.gt, ρ.ga]

theorem RSndAt.keeps {w w' : World} {ρ : RBlk} {σ : Snd} {S : List Nat} (h : RSndAt w ρ σ) (k : Keeps S w w') (hs : ∀ x ∈ ρ.all, x ∉ S) : RSndAt w' ρ σ := by
  unfold RBlk.all at hs
  exact ⟨h.row.keeps k (hs _ (by simp)), h.bools.keeps k (hs _ (by simp)), h.strs.keeps k (hs _ (by simp)), h.tr.keeps k (hs _ (by simp)), h.at_.keeps k (hs _ (by simp)), h.cap⟩
theorem RSndAt.quiet {w w' : World} {ρ : RBlk} {σ : Snd} (h : RSndAt w ρ σ) (k : Keeps [] w w') : RSndAt w' ρ σ := h.keeps k (by simp)

section
variable {w : World} {ρ : RBlk} {σ : Snd} (h : RSndAt w ρ σ)
include h
theorem RSndAt.c0 : w.cell? ⟨ρ.b, 0, none⟩ = some (.int .i64 σ.ses) := by rw [h.row.cell]; rfl
theorem RSndAt.c1 : w.cell? ⟨ρ.b, 1, none⟩ = some (.int .i64 σ.epo) := by rw [h.row.cell]; rfl
theorem RSndAt.c2 : w.cell? ⟨ρ.b, 2, none⟩ = some (.slice (some ⟨ρ.gx, ρ.ox, none⟩) σ.c.length ρ.cx) := by rw [h.row.cell]; rfl
theorem RSndAt.c3 : w.cell? ⟨ρ.b, 3, none⟩ = some (bslice ρ.gi ρ.ci σ.l) := by rw [h.row.cell]; rfl
theorem RSndAt.c4 : w.cell? ⟨ρ.b, 4, none⟩ = some (sl ρ.gt σ.c.length ρ.ct) := by rw [h.row.cell]; rfl
theorem RSndAt.c5 : w.cell? ⟨ρ.b, 5, none⟩ = some (sl ρ.ga σ.c.length ρ.ca) := by rw [h.row.cell]; rfl
theorem RSndAt.c6 : w.cell? ⟨ρ.b, 6, none⟩ = some (.int .i64 σ.now) := by rw [h.row.cell]; rfl
theorem RSndAt.c7 : w.cell? ⟨ρ.b, 7, none⟩ = some (.bool σ.lost) := by rw [h.row.cell]; rfl
end

theorem rsErr_any (ρ : RBlk) (σ : Snd) (w : World) (h : RSndAt w ρ σ) (ho : σ.Ok) : Calls Try.prog 37 #[ptr ρ.b] w fun e w' => e = .returned (.int .i64 (errOf σ)) ∧ Keeps [] w w' := by
  have c2 := h.c2
  have c3 := h.c3
  have c7 := h.c7
  have hcap := h.cap
  have hn2 := ho.n2
  have hll := ho.ll
  have HM := Lib.hid h.bools; clear h ho
  unfold errOf
  cases hl : σ.lost with
  | true =>
    rw [hl] at c7
    clear hl
    go_enter Try.func37, Try.ntmps37
    go_wp2_with fail
    go_ret
    exact ⟨rfl, Keeps.refl _ _⟩
  | false =>
    rw [hl] at c7
    clear hl
    by_cases hf : baseL σ.l = σ.l.length
    · rw [if_pos hf]
      have ht : ((baseL σ.l : Int) == (σ.c.length : Int)) = true := by simp; omega
      have HB := Lib.hid (show ∀ n, Calls Try.prog 16 #[bslice ρ.gi ρ.ci σ.l] (w.drewN n) fun e w' => e = .returned (.int .i64 (baseL σ.l)) ∧ w.drewN n = w' from fun n => rbase_any _ _ _ _ (HM.out.keeps (Keeps.of_drewN w n) (by simp)))
      clear hf hll
      generalize baseL σ.l = bs at *
      go_enter Try.func37, Try.ntmps37
      go_wp2_with fail
      go_quiet ((go_at_call 16; exact quiet_same (HB.out _)))
      go_wp2_with fail
      go_ret
      exact ⟨rfl, Keeps.of_drewN _ _⟩
    · rw [if_neg hf]
      have ht : ((baseL σ.l : Int) == (σ.c.length : Int)) = false := by simp; omega
      have HB := Lib.hid (show ∀ n, Calls Try.prog 16 #[bslice ρ.gi ρ.ci σ.l] (w.drewN n) fun e w' => e = .returned (.int .i64 (baseL σ.l)) ∧ w.drewN n = w' from fun n => rbase_any _ _ _ _ (HM.out.keeps (Keeps.of_drewN w n) (by simp)))
      clear hf hll
      generalize baseL σ.l = bs at *
      go_enter Try.func37, Try.ntmps37
      go_wp2_with fail
      go_quiet ((go_at_call 16; exact quiet_same (HB.out _)))
      go_wp2_with fail
      go_ret
      exact ⟨rfl, Keeps.of_drewN _ _⟩
end Go.Proofs.Ytffcambjdlkfbaa
