/- Contract of the receiver's Data (package receiver). -/
import Derived.Test.YtffcambjdlkfbaaRecM
import Derived.Test.YtffcambjdlkfbaaRecN
namespace Go.Proofs.Ytffcambjdlkfbaa
open Go.RowKit

theorem join_empty (xs : List (List UInt8)) : Lib.join xs [] = xs.flatten := by
  cases xs with
  | nil => rfl
  | cons x r => rw [Lib.join_cons]; simp [Lib.joinTail]

theorem data54_not (b m g cap k t : Nat) (r : Rcv) (w : World) (h : RcvAt w b m g cap k t r) (hq : (baseL r.l == r.l.length) = false) :
    Calls Try.prog 54 #[ptr b] w fun e w' => e = .returned (.tuple #[.string ⟨#[]⟩, .int .i64 11]) ∧ Keeps [] w w' := by
  have c2 := h.c2
  have HF := Lib.hid (full_lit m r.l false w h.map hq)
  clear h hq
  go_enter Try.func54, Try.ntmps54
  go_wp2_with fail
  refine (HF.out).mono ?_
  rintro e w1 ⟨rfl, k1⟩
  have k1 := Lib.hid k1
  go_wp2_with fail
  go_ret2
  exact ⟨rfl, k1.out⟩

theorem ret_se {a b : ByteArray} {x y : Int} (h : a = b) (h2 : x = y) : Ending.returned (.tuple #[.string a, .int .i64 x]) = .returned (.tuple #[.string b, .int .i64 y]) := by rw [h, h2]

theorem data54_all (b m g cap k t : Nat) (r : Rcv) (w : World) (h : RcvAt w b m g cap k t r) (hg : r.Good) (hq : (baseL r.l == r.l.length) = true) :
    Calls Try.prog 54 #[ptr b] w fun e w' => e = .returned (.tuple #[.string (mkB (joinC r.c r.l.length)), .int .i64 0]) ∧ Keeps [] w w' := by
  have HF := Lib.hid (full_lit m r.l true w h.map hq)
  have hlen := hg.len
  have hhigh := hg.high
  have e1 : Lib.join (r.c.map (·.data.toList)) (⟨#[]⟩ : ByteArray).data.toList = joinC r.c r.l.length := by
    have : (⟨#[]⟩ : ByteArray).data.toList = [] := rfl
    rw [this, join_empty, joinC, ← hlen, List.take_length]
  have hl := joinC_len r.c 1000 hg.most r.l.length (by omega)
  have hcap : r.c.length ≤ cap := by
    rcases h.txt.2 with ⟨h, _⟩ | ⟨g', cap', cur, hv, _, hg, hn, _⟩
    · cases h
    · cases hv; exact hn
  have HJ := Lib.hid (fun (w1 : World) (k1 : Keeps [] w w1) => Try.strings_Join g 0 cap r.c ⟨#[]⟩ w1 (fun j x hj => by
      have hj2 := (List.getElem?_eq_some_iff.1 hj).1
      have := (h.txt.keeps k1 (by simp)).cell j hj2
      rw [List.getD_eq_getElem?_getD, hj] at this
      rw [Nat.zero_add]; exact this) (h.txt.keeps k1 (by simp)).lt (by omega) hcap (by rw [e1]; omega))
  have H := Lib.hid h
  have c2 := h.c2
  rw [e1, hlen] at HJ
  clear h hg hq e1
  go_enter Try.func54, Try.ntmps54
  go_wp2_with fail
  refine (HF.out).mono ?_
  rintro e w1 ⟨rfl, k1⟩
  have c3 := (H.out.quiet k1).c3
  have k1 := Lib.hid k1
  go_wp2_with fail
  refine (HJ.out w1 k1.out).mono ?_
  rintro e w2 ⟨rfl, k2⟩
  have k2 := Lib.hid k2
  go_wp2_with fail
  go_ret2
  exact ⟨ret_se rfl rfl, k1.out.trans (Keeps.of_below k2.out)⟩

/-- Data. -/
theorem data54 (b m g cap k t : Nat) (r : Rcv) (w : World) (h : RcvAt w b m g cap k t r) (hg : r.Good) (S : ByteArray) (E : Int) (hS : dataS r = S) (hE : (if (baseL r.l == r.l.length) = true then 0 else 11) = E) :
    Calls Try.prog 54 #[ptr b] w fun e w' => e = .returned (.tuple #[.string S, .int .i64 E]) ∧ Keeps [] w w' := by
  subst hS; subst hE
  unfold dataS
  cases hq : (baseL r.l == r.l.length) with
  | true => exact data54_all b m g cap k t r w h hg hq
  | false => exact data54_not b m g cap k t r w h hq
end Go.Proofs.Ytffcambjdlkfbaa
