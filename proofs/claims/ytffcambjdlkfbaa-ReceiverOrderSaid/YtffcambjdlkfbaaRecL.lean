/- Contracts of the reference receiver's Data (signpostref14). -/
import Derived.Test.YtffcambjdlkfbaaRecK
namespace Go.Proofs.Ytffcambjdlkfbaa
open Go.RowKit

/-- The first k texts, one behind the other. -/
def joinC (c : List ByteArray) (k : Nat) : List UInt8 := ((c.take k).map (·.data.toList)).flatten

theorem joinC_zero (c : List ByteArray) : joinC c 0 = [] := by simp [joinC]
theorem joinC_succ (c : List ByteArray) (k : Nat) (hk : k < c.length) : joinC c (k + 1) = joinC c k ++ (c.getD k noText).data.toList := by
  unfold joinC
  rw [List.take_add_one, List.getElem?_eq_getElem hk, List.getD_eq_getElem?_getD, List.getElem?_eq_getElem hk, List.map_append, List.flatten_append]
  simp
theorem joinC_len (c : List ByteArray) (N : Nat) (h : ∀ i, (c.getD i noText).size ≤ N) : ∀ k, k ≤ c.length → (joinC c k).length ≤ k * N := by
  intro k
  induction k with
  | zero => intro _; simp [joinC_zero]
  | succ k ih =>
    intro hk
    rw [joinC_succ c k (by omega), List.length_append, Nat.succ_mul]
    have := ih (by omega)
    have h2 : (c.getD k noText).data.toList.length ≤ N := h k
    omega

/-- What Data tells. -/
def dataS (r : Rcv) : ByteArray := if (baseL r.l == r.l.length) = true then mkB (joinC r.c r.l.length) else ByteArray.empty

theorem mkB_append (a : List UInt8) (t : ByteArray) : mkB a ++ t = mkB (a ++ t.data.toList) := by
  apply ByteArray.ext
  rw [ByteArray.data_append]
  simp

theorem ret_sb {a b : ByteArray} {x y : Bool} (h : a = b) (h2 : x = y) : Ending.returned (.tuple #[.string a, .bool x]) = .returned (.tuple #[.string b, .bool y]) := by rw [h, h2]

set_option maxRecDepth 100000 in
set_option maxHeartbeats 2000000 in
theorem data55 (b gi ci gc cc gd cd t : Nat) (r : Rcv) (w : World) (h : RefAt w b gi ci gc cc gd cd t r) (hg : r.Good) (S : ByteArray) (q : Bool) (hS : dataS r = S) (hq : (baseL r.l == r.l.length) = q) :
    Calls Try.prog 55 #[ptr b] w fun e w' => e = .returned (.tuple #[.string S, .bool q]) ∧ w = w' := by
  have c2 := h.c2
  have c3 := h.c3
  have hhigh := hg.high
  have hlen := hg.len
  have HB := Lib.hid h.bools
  have HT := Lib.hid h.txt
  have HM := Lib.hid hg.most
  unfold dataS at hS
  rw [hq] at hS
  have HS := Lib.hid hS
  have HQ := Lib.hid hq
  clear h hg hS hq
  go_enter Try.func55, Try.ntmps55
  go_wp2_with fail
  go_loop [4, 5] (fun s i => ∃ k : Nat, k ≤ r.l.length ∧ i = .int .i64 k ∧ s = .string (mkB (joinC r.c k)) ∧ ∀ j, j < k → at' r.l j = true) (fun _ i => r.l.length - (intOf i).toNat)
  case atStart => exact ⟨0, Nat.zero_le _, rfl, rfl, fun j hj => by omega⟩
  case round =>
    obtain ⟨k, hk, rfl, rfl, hall⟩ := hrel
    have HA := Lib.hid hall; clear hall
    by_cases hlt : k < r.l.length
    · have cb := HB.out.cell k hlt
      have ct := HT.out.cell k (by omega)
      by_cases hb : at' r.l k = true
      · rw [hb] at cb
        have HBk := Lib.hid hb; clear hb
        have hsz := joinC_len r.c 1000 HM.out k (by omega)
        have hs2 := HM.out k
        have HJ := Lib.hid (joinC_succ r.c k (by omega))
        have hsz2 : (mkB (joinC r.c k)).size ≤ 256000 := by rw [size_mkB]; omega
        generalize hX : mkB (joinC r.c k) = X at *
        have HX := Lib.hid hX; clear hX hsz
        generalize hY : r.c.getD k noText = Y at *
        have HY := Lib.hid hY; clear hY
        go_wp2_with fail
        go_round
        case rel => exact ⟨k + 1, by omega, by go_num, by rw [HJ.out, ← mkB_append, HX.out], fun j hj => by
          rcases Nat.lt_or_ge j k with h | h
          · exact HA.out j h
          · obtain rfl : j = k := by omega
            exact HBk.out⟩
        case measure => simp [intOf]; omega
      · have hb : at' r.l k = false := by simpa using hb
        rw [hb] at cb
        have hbase : baseL r.l = k := baseL_eq (by omega) HA.out (Or.inr hb)
        have hq2 : q = false := by rw [← HQ.out, hbase]; simp; omega
        have HQ2 := Lib.hid hq2
        clear hb hbase hq2
        go_wp2_with fail
        go_ret2
        exact ⟨ret_sb (by rw [← HS.out, HQ2.out]; rfl) HQ2.out.symm, rfl⟩
    · obtain rfl : k = r.l.length := by omega
      have hbase : baseL r.l = r.l.length := baseL_eq (Nat.le_refl _) HA.out (Or.inl rfl)
      have hq2 : q = true := by rw [← HQ.out, hbase]; simp
      have HQ2 := Lib.hid hq2
      clear hbase hq2
      go_wp2_with fail
      go_ret2
      exact ⟨ret_sb (by rw [← HS.out, HQ2.out]; rfl) HQ2.out.symm, rfl⟩
end Go.Proofs.Ytffcambjdlkfbaa
