/- The answers that the document fixes (signpostlaw13's awake): true, and only new blocks are written. -/
import Derived.Test.YtffcambjdlkfbaaSendO
namespace Go.Proofs.Ytffcambjdlkfbaa
open Go.RowKit

theorem tick_lit (β : SBlk) (σ : Snd) (w : World) (h : SndAt w β σ) (ho : σ.Ok) (hnd : β.all.Nodup) (hn : σ.now ≤ 999999) (er : Int) (ds : List Int) (s : Snd) (hT : tickS σ = ⟨er, ds, s⟩) :
    Calls Try.prog 31 #[ptr β.b] w fun e w' => ∃ v, e = .returned (.tuple #[v, .int .i64 er]) ∧ w'.ownsRow w.heap.size 54 6 v ds.length (framesV σ ds) ∧ SndAt w' β s ∧ Keeps β.foot w w' ∧ s.Ok := by
  refine (sTick_any β σ w h ho hnd hn).mono ?_
  rintro e w' ⟨v, h1, h2, h3, h4⟩
  have ho2 := (tickS_ok σ ho hn).1
  rw [hT] at h1 h2 h3 ho2
  exact ⟨v, h1, h2, h3, h4, ho2⟩

theorem ack_lit (β : SBlk) (σ : Snd) (kind ses epo idx tot : Int) (s : ByteArray) (w : World) (h : SndAt w β σ) (ho : σ.Ok) (hnd : β.all.Nodup) (hs : s.size ≤ 1000) (er : Int) (σ' : Snd) (hE : ackErr σ kind ses epo idx tot = er) (hA : ackS σ kind ses epo idx tot s = σ') :
    Calls Try.prog 34 #[ptr β.b, .agg #[.int .i64 kind, .int .i64 ses, .int .i64 epo, .int .i64 idx, .int .i64 tot, .string s]] w fun e w' => e = .returned (.int .i64 er) ∧ SndAt w' β σ' ∧ Keeps β.foot w w' ∧ σ'.Ok := by
  refine (sAck_any β σ kind ses epo idx tot s w h ho hnd hs).mono ?_
  rintro e w' ⟨h1, h2, h3⟩
  have ho2 := (ackS_ok σ ho kind ses epo idx tot s).1
  rw [hE] at h1
  rw [hA] at h2 ho2
  exact ⟨h1, h2, h3.mono (by unfold SBlk.foot; simp), ho2⟩

theorem done_lit (β : SBlk) (σ : Snd) (b : Bool) (w : World) (h : SndAt w β σ) (hb : (baseL σ.l == σ.l.length) = b) : Calls Try.prog 38 #[ptr β.b] w fun e w' => e = .returned (.bool b) ∧ Keeps [] w w' := by
  subst hb; exact sDone_any β σ w h
theorem tries_lit (β : SBlk) (σ : Snd) (i : Nat) (r : Int) (w : World) (h : SndAt w β σ) (ho : σ.Ok) (hi : i < σ.c.length) (hr : σ.tr.getD i 0 = r) :
    Calls Try.prog 40 #[ptr β.b, .int .i64 i] w fun e w' => e = .returned (.int .i64 r) ∧ w = w' := by
  subst hr; exact sTries_any β σ i w h ho hi

def abc : List ByteArray := [⟨#[97]⟩, ⟨#[98]⟩, ⟨#[99]⟩]
abbrev sA (l : List Bool) (tr at_ : List Int) (now : Int) : Snd := ⟨7, 8, abc, l, tr, at_, now, false⟩

theorem owns_zero {w : World} {B : Nat} {e : TypeId} {s : Nat} {v : Value} {xs : List Value} (h : w.ownsRow B e s v 0 xs) : ∃ a c, v = .slice a 0 c := by
  rcases h.2 with ⟨rfl, _⟩ | ⟨g, cap, cur, rfl, _⟩
  · exact ⟨_, _, rfl⟩
  · exact ⟨_, _, rfl⟩

theorem snd0_ok : (sA [false, false, false] [0, 0, 0] [0, 0, 0] 0).Ok := by
  refine ⟨by decide, by decide, rfl, rfl, rfl, fun i => ?_, fun i => ?_, by decide⟩
  · match i with
    | 0 => decide
    | 1 => decide
    | 2 => decide
    | n + 3 => simp
  · match i with
    | 0 => decide
    | 1 => decide
    | 2 => decide
    | n + 3 => simp

theorem t1 : tickS (sA [false, false, false] [0, 0, 0] [0, 0, 0] 0) = ⟨0, [0, 1, 2], sA [false, false, false] [1, 1, 1] [1, 1, 1] 1⟩ := by rfl
theorem t2 : tickS (sA [false, false, false] [1, 1, 1] [1, 1, 1] 1) = ⟨0, [], sA [false, false, false] [1, 1, 1] [1, 1, 1] 2⟩ := by rfl
theorem a1e : ackErr (sA [false, false, false] [1, 1, 1] [1, 1, 1] 2) 2 7 8 1 3 = 0 := by rfl
theorem a1s : ackS (sA [false, false, false] [1, 1, 1] [1, 1, 1] 2) 2 7 8 1 3 ⟨#[1]⟩ = sA [true, false, true] [1, 1, 1] [1, 1, 1] 2 := by rfl
theorem a2e : ackErr (sA [true, false, true] [1, 1, 1] [1, 1, 1] 2) 2 6 8 1 3 = 12 := by rfl
theorem a2s : ackS (sA [true, false, true] [1, 1, 1] [1, 1, 1] 2) 2 6 8 1 3 ByteArray.empty = sA [true, false, true] [1, 1, 1] [1, 1, 1] 2 := by rfl
theorem t3 : tickS (sA [true, false, true] [1, 1, 1] [1, 1, 1] 2) = ⟨0, [], sA [true, false, true] [1, 1, 1] [1, 1, 1] 3⟩ := by rfl
theorem t4 : tickS (sA [true, false, true] [1, 1, 1] [1, 1, 1] 3) = ⟨0, [], sA [true, false, true] [1, 1, 1] [1, 1, 1] 4⟩ := by rfl
theorem t5 : tickS (sA [true, false, true] [1, 1, 1] [1, 1, 1] 4) = ⟨0, [1], sA [true, false, true] [1, 2, 1] [1, 5, 1] 5⟩ := by rfl
theorem a3e : ackErr (sA [true, false, true] [1, 2, 1] [1, 5, 1] 5) 2 7 8 3 3 = 0 := by rfl
theorem a3s : ackS (sA [true, false, true] [1, 2, 1] [1, 5, 1] 5) 2 7 8 3 3 ByteArray.empty = sA [true, true, true] [1, 2, 1] [1, 5, 1] 5 := by rfl
theorem t6 : tickS (sA [true, true, true] [1, 2, 1] [1, 5, 1] 5) = ⟨15, [], sA [true, true, true] [1, 2, 1] [1, 5, 1] 5⟩ := by rfl
end Go.Proofs.Ytffcambjdlkfbaa
