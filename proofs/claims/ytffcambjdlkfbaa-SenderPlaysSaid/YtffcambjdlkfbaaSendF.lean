/- Contracts of the sender's closures and of due. -/
import Derived.Test.YtffcambjdlkfbaaSendE
namespace Go.Proofs.Ytffcambjdlkfbaa
open Go.RowKit

def restS (σ : Snd) (i : Int) : Bool := decide (0 < σ.tr.getD i.toNat 0) && decide (σ.now - σ.at_.getD i.toNat 0 < 4)
def overS (σ : Snd) (i : Int) : Bool := decide (8 ≤ σ.tr.getD i.toNat 0)

set_option maxRecDepth 100000 in
theorem ask87 (β : SBlk) (σ : Snd) (cb i : Nat) (w : World) (hb : w.cell? ⟨cb, 0, none⟩ = some (ptr β.b)) (h : SndAt w β σ) (ho : σ.Ok) (hi : i < σ.c.length) :
    Calls Try.prog 87 #[.int .i64 i, ptr cb] w fun e w' => e = .returned (.bool (restS σ i)) ∧ ∃ n, w.drewN n = w' := by
  have c4 := h.c4
  have c5 := h.c5
  have c6 := h.c6
  have ct := h.tr.cell i (by rw [ho.lt]; exact hi)
  have ca := h.at_.cell i (by rw [ho.la]; exact hi)
  have hn2 := ho.n2
  have r1 := ho.trOk i
  have r2 := ho.atOk i
  have r3 := ho.nowOk
  have e0 : (i : Int).toNat = i := by simp
  unfold restS
  rw [e0]
  clear h ho e0
  generalize σ.tr.getD i 0 = x at *
  generalize σ.at_.getD i 0 = y at *
  generalize σ.now = t at *
  by_cases hx : 0 < x
  · have t1 : decide (0 < x) = true := by simpa using hx
    clear hx
    by_cases hy : t - y < 4
    · have t2 : decide (t - y < 4) = true := by simpa using hy
      clear hy
      go_enter Try.func87, Try.ntmps87
      go_wp2_with fail
      go_quiet (fail)
      go_wp2_with fail
      go_ret
      exact ⟨by rw [t1, t2]; rfl, _, rfl⟩
    · have t2 : decide (t - y < 4) = false := by simpa using hy
      clear hy
      go_enter Try.func87, Try.ntmps87
      go_wp2_with fail
      go_quiet (fail)
      go_wp2_with fail
      go_ret
      exact ⟨by rw [t1, t2]; rfl, _, rfl⟩
  · have t1 : decide (0 < x) = false := by simpa using hx
    clear hx
    go_enter Try.func87, Try.ntmps87
    go_wp2_with fail
    go_quiet (fail)
    go_wp2_with fail
    go_ret
    exact ⟨by rw [t1]; rfl, _, rfl⟩

theorem ask65 (β : SBlk) (σ : Snd) (cb i : Nat) (w : World) (hb : w.cell? ⟨cb, 0, none⟩ = some (ptr β.b)) (h : SndAt w β σ) (ho : σ.Ok) (hi : i < σ.c.length) :
    Calls Try.prog 65 #[.int .i64 i, ptr cb] w fun e w' => e = .returned (.bool (overS σ i)) ∧ ∃ n, w.drewN n = w' := by
  have c4 := h.c4
  have ct := h.tr.cell i (by rw [ho.lt]; exact hi)
  have hn2 := ho.n2
  have e0 : (i : Int).toNat = i := by simp
  unfold overS
  rw [e0]
  clear h ho e0
  generalize σ.tr.getD i 0 = x at *
  go_enter Try.func65, Try.ntmps65
  go_wp2_with fail
  go_ret
  exact ⟨rfl, 0, rfl⟩

theorem SndAt.all_lt {w : World} {β : SBlk} {σ : Snd} (h : SndAt w β σ) (ho : σ.Ok) (x : Nat) (hx : x ∈ β.all) : x < w.heap.size := by
  unfold SBlk.all at hx
  simp only [List.mem_cons, List.not_mem_nil, or_false] at hx
  have hs : β.gc < w.heap.size := by
    have hn := ho.n1
    have := h.strs 0 (σ.c[0]'(by omega)) (List.getElem?_eq_getElem (by omega))
    exact World.block_lt_of_cell? w ⟨β.gc, 0 + 0, none⟩ this
  rcases hx with rfl | rfl | rfl | rfl | rfl
  · exact h.row.lt
  · exact h.map.lt
  · exact hs
  · exact h.tr.lt
  · exact h.at_.lt

/-- What due leaves. -/
def DuePost (ds : List Int) (w : World) (e : Ending) (w' : World) : Prop :=
  ∃ v, e = .returned v ∧ Reads w' v (ds.map (Value.int .i64)) ∧ Keeps [] w w' ∧ ∀ k, v.ownBlock = some k → w.heap.size < k

theorem keepS_not (σ : Snd) (x : Int) : (!restS σ x) = keepS σ.tr σ.at_ σ.now x := rfl

theorem due_any (β : SBlk) (σ : Snd) (w : World) (h : SndAt w β σ) (ho : σ.Ok) :
    Calls Try.prog 63 #[ptr β.b] w (DuePost (dueL σ.l σ.tr σ.at_ σ.now) w) := by
  have c0 := h.c0
  have hk1 : Keeps [] w (w.alloc (.cells #[ptr β.b] 47)) := (Keeps.refl [] w).alloc _
  have cb : (w.alloc (.cells #[ptr β.b] 47)).cell? ⟨w.heap.size, 0, none⟩ = some (ptr β.b) := (RowAt.new w 47 [ptr β.b]).cell 0
  have c0' := hk1.cell (by simp) c0
  have hll := ho.ll
  have hn2 := ho.n2
  have hbl := baseL_le σ.l
  have HM := Lib.hid h.map
  have HS := Lib.hid h; clear h
  have HO := Lib.hid ho; clear ho
  have HK1 := Lib.hid hk1; clear hk1
  have HCB := Lib.hid cb
  go_enter Try.func63, Try.ntmps63
  go_wp2_with fail
  refine (base_any β.bm σ.l _ (HM.out.keeps HK1.out (by simp))).mono ?_
  rintro e w' ⟨rfl, rfl⟩
  go_wp2_with fail
  refine (missing_any β.bm σ.l _ _ _ (HM.out.keeps HK1.out (by simp))).mono ?_
  rintro e w2 ⟨v, rfl, hown, hk2⟩
  have hK2 := HK1.out.trans hk2
  have hlt : ∀ x ∈ β.all, x < (w.alloc (.cells #[ptr β.b] 47)).heap.size := fun x hx => Nat.lt_of_lt_of_le (HS.out.all_lt HO.out x hx) HK1.out.size
  have hcl : w.heap.size < (w.alloc (.cells #[ptr β.b] 47)).heap.size := by simp
  have hml := missTo_length σ.l (baseL σ.l) ((baseL σ.l : Int) + 8) σ.l.length
  have hasks : ∀ g, (w.alloc (.cells #[ptr β.b] 47)).heap.size ≤ g → Asks 87 (ptr w.heap.size) [g] w2 (restS σ) (missL σ.l (baseL σ.l) ((baseL σ.l : Int) + 8)) := fun g hg u hu x hx => by
    obtain ⟨i, rfl, hi⟩ := missTo_mem _ _ _ _ _ hx
    refine ask87 β σ w.heap.size i u (hu.cell (by simp; omega) (hk2.cell (by simp) HCB.out)) ?_ HO.out (by omega)
    exact (HS.out.quiet hK2).keeps hu (fun y hy => by have := hlt y hy; simp; omega)
  have hdel := delFunc_any 87 w.heap.size _ (restS σ) v _ w2 (by unfold missL; omega) enters87 hown hasks
  have HD := Lib.hid hdel
  have HK2 := Lib.hid hK2
  have HOwn := Lib.hid hown
  have hcl := Lib.hid hcl
  have hlt := Lib.hid hlt
  clear hdel hK2 hown hasks hk2 hml
  rename_i hcl0 hlt0
  clear hcl0 hlt0
  go_wp2_with fail
  refine (HD.out).mono ?_
  rintro e w3 ⟨g, hg, v3, rfl, hr, hk3, hv3⟩
  have hr := Lib.hid hr
  have hk3 := Lib.hid hk3
  rename_i hr0 hk0
  clear hr0 hk0
  go_wp2_with fail
  go_ret
  refine ⟨v3, rfl, ?_, HK2.out.then hk3.out (fun i hi => Or.inr ?_), fun k e => ?_⟩
  · have := hr.out
    simpa [dueL, keepS_not] using this
  · have h1 := hcl.out
    simp at hi hg h1; omega
  · have h1 := hcl.out
    have h2 := hv3 k e
    simp at hg h1; omega
end Go.Proofs.Ytffcambjdlkfbaa
