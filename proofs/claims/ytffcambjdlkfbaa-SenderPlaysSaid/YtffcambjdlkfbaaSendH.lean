/- The sender's Tick where it loses, and where frames go out. -/
import Derived.Test.YtffcambjdlkfbaaSendG
import Derived.Deep.AppendLies
namespace Go.Proofs.Ytffcambjdlkfbaa
open Go.RowKit

theorem foot_lt {w : World} {β : SBlk} {σ : Snd} (h : SndAt w β σ) (ho : σ.Ok) (x : Nat) (hx : x ∈ β.foot) : x < w.heap.size :=
  h.all_lt ho x (by unfold SBlk.foot at hx; unfold SBlk.all; simp at hx ⊢; omega)

theorem nowOk1 (σ : Snd) (ho : σ.Ok) (hn : σ.now ≤ 999999) : ({ σ with now := σ.now + 1 } : Snd).Ok := by
  have := ho.nowOk
  exact ⟨ho.n1, ho.n2, ho.ll, ho.lt, ho.la, ho.trOk, ho.atOk, by dsimp only; omega⟩

theorem asks65 {β : SBlk} {σ : Snd} {w : World} {cb : Nat} (hb : w.cell? ⟨cb, 0, none⟩ = some (ptr β.b)) (h : SndAt w β σ) (ho : σ.Ok) (xs : List Int) (hx : ∀ x ∈ xs, ∃ i : Nat, x = i ∧ i < σ.c.length) : Asks 65 (ptr cb) [] w (overS σ) xs := fun u hu x hm => by
  obtain ⟨i, rfl, hi⟩ := hx x hm
  exact ask65 β σ cb i u (hu.cell (by simp) hb) (h.quiet hu) ho hi

set_option maxRecDepth 100000 in
set_option maxHeartbeats 2000000 in
theorem tick_loses (β : SBlk) (σ : Snd) (w : World) (h : SndAt w β σ) (ho : σ.Ok) (hnd : β.all.Nodup) (hn : σ.now ≤ 999999) (hf : baseL σ.l ≠ σ.l.length) (hlo : σ.lost = false)
    (hover : lostB σ.tr (dueL σ.l σ.tr σ.at_ (σ.now + 1)) = true) : Calls Try.prog 31 #[ptr β.b] w (TickPost β σ w) := by
  have hT : tickS σ = ⟨16, [], { σ with now := σ.now + 1, lost := true }⟩ := by unfold tickS; rw [if_neg hf, if_neg (by simp [hlo])]; dsimp only; rw [if_pos hover]
  unfold TickPost
  rw [hT]
  have hnow := ho.nowOk
  have hll := ho.ll
  have hn2 := ho.n2
  have hk1 : Keeps [] w (w.alloc (.cells #[ptr β.b] 47)) := (Keeps.refl [] w).alloc _
  have cb : (w.alloc (.cells #[ptr β.b] 47)).cell? ⟨w.heap.size, 0, none⟩ = some (ptr β.b) := (RowAt.new w 47 [ptr β.b]).cell 0
  have c0' := hk1.cell (by simp) h.c0
  have HF := Lib.hid (show (baseL σ.l == σ.l.length) = false from by simpa using hf)
  have HS := Lib.hid h
  have HO := Lib.hid ho
  have HK1 := Lib.hid hk1
  have HCB := Lib.hid cb
  have HND := Lib.hid hnd
  have HLO := Lib.hid hlo
  have HOV := Lib.hid hover
  have hlt := Lib.hid (h.row.lt)
  have hdl := dueL_length σ.l σ.tr σ.at_ (σ.now + 1)
  clear hT hf h hk1 hlo ho hnd hover
  go_enter Try.func31, Try.ntmps31
  go_wp2_with fail
  refine (full_lit β.bm σ.l false _ (HS.out.map.keeps HK1.out (by simp)) HF.out).mono ?_
  rintro e w1 ⟨rfl, hk⟩
  have cb2 := hk.cell (by simp) HCB.out
  have HS1 := Lib.hid (HS.out.quiet (HK1.out.trans hk))
  have c7 := HS1.out.c7
  rw [HLO.out] at c7
  have c6 := HS1.out.c6
  have f6 := HS1.out.free 6
  have HK2 := Lib.hid (HK1.out.trans hk)
  clear hk
  have hbne : β.b ≠ w.heap.size := by have := hlt.out; omega
  have HS2 := Lib.hid (HS1.out.setNow HND.out (σ.now + 1))
  have HO2 := Lib.hid (nowOk1 σ HO.out hn)
  have cb3 : (w1.setCell ⟨β.b, 6, none⟩ (.int .i64 (σ.now + 1))).cell? ⟨w.heap.size, 0, none⟩ = some (ptr β.b) := (keeps_store w1 β.b 6 _).cell (by simpa using Ne.symm hbne) cb2
  have HCB3 := Lib.hid cb3
  have cb3 := HCB3.out
  have HK3 := Lib.hid (keeps_store w1 β.b 6 (.int .i64 (σ.now + 1)))
  go_wp2_with fail
  refine (due_any β { σ with now := σ.now + 1 } _ HS2.out HO2.out).mono ?_
  rintro e w2 ⟨v, rfl, hr, hk2, hb2⟩
  have cb4 := hk2.cell (by simp) HCB3.out
  have HS3 := Lib.hid (HS2.out.quiet hk2)
  have HK4 := Lib.hid hk2
  have hc := containsFunc_any 65 w.heap.size [] (overS { σ with now := σ.now + 1 }) v _ w2 (by dsimp only; omega) enters65 hr (asks65 cb4 (HS2.out.quiet hk2) HO2.out _ (fun x hx => by
    obtain ⟨i, rfl, hi⟩ := dueL_mem _ _ _ _ x hx
    exact ⟨i, rfl, by dsimp only at hi ⊢; omega⟩))
  have hany : (dueL ({ σ with now := σ.now + 1 } : Snd).l ({ σ with now := σ.now + 1 } : Snd).tr ({ σ with now := σ.now + 1 } : Snd).at_ ({ σ with now := σ.now + 1 } : Snd).now).any (overS { σ with now := σ.now + 1 }) = true := HOV.out
  rw [hany] at hc
  have HCont := Lib.hid hc
  clear hc hany hr hk2 hb2
  go_wp2_with fail
  refine (HCont.out).mono ?_
  rintro e w3 ⟨rfl, n, rfl⟩
  have HS4 := Lib.hid (HS3.out.quiet (Keeps.of_drewN w2 n))
  have f7 := HS4.out.free 7
  have c7b := HS4.out.c7
  have cb5 : (w2.drewN n).cell? ⟨w.heap.size, 0, none⟩ = some (ptr β.b) := cb4
  go_wp2_with fail
  go_ret2
  refine ⟨_, rfl, World.ownsRow_nil _ _ _ _, HS4.out.setLost HND.out true, ?_⟩
  have a1 : Keeps [β.b] w w1 := HK2.out.mono (by simp)
  have a2 := a1.trans HK3.out
  have a3 := a2.trans (HK4.out.mono (by simp))
  have a4 := a3.trans ((Keeps.of_drewN w2 n).mono (T := [β.b]) (by simp))
  exact (a4.trans (keeps_store _ β.b 7 _)).mono (by unfold SBlk.foot; simp)
end Go.Proofs.Ytffcambjdlkfbaa
