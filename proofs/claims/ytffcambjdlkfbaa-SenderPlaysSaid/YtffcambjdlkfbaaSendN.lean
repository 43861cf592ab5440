/- The reference of layer 13 (signpostref13): Tick, its first half. -/
import Derived.Test.YtffcambjdlkfbaaSendM
import Derived.Deep.DeepCutAuto
namespace Go.Proofs.Ytffcambjdlkfbaa
open Go.RowKit

/-- What the reference's Tick leaves. -/
def RTickPost (ρ : RBlk) (σ : Snd) (w : World) (e : Ending) (w' : World) : Prop :=
  ∃ v, e = .returned (.tuple #[v, .int .i64 (tickS σ).err]) ∧ w'.ownsRow w.heap.size 54 6 v (tickS σ).due.length (framesV σ (tickS σ).due) ∧ RSndAt w' ρ (tickS σ).s ∧ Keeps ρ.foot w w'

section
variable {w : World} {ρ : RBlk} {σ : Snd}
theorem RSndAt.setTr (h : RSndAt w ρ σ) (hnd : ρ.all.Nodup) (i : Nat) (x : Int) : RSndAt (w.setCell ⟨ρ.gt, i, none⟩ (.int .i64 x)) ρ { σ with tr := σ.tr.set i x } := by
  obtain ⟨⟨h1, h2, h3, h4⟩, ⟨h5, h6, h7⟩, ⟨h8, h9⟩, h10⟩ := RBlk.nd hnd
  have k := keeps_store w ρ.gt i (.int .i64 x)
  exact ⟨h.row.keeps k (by simpa using h2), h.bools.keeps k (by simpa using h5), h.strs.keeps k (by simpa using Ne.symm h9), h.tr.set i x |> fun t => by simpa using t, h.at_.keeps k (by simpa using Ne.symm h8), h.cap⟩
theorem RSndAt.setAt (h : RSndAt w ρ σ) (hnd : ρ.all.Nodup) (i : Nat) (x : Int) : RSndAt (w.setCell ⟨ρ.ga, i, none⟩ (.int .i64 x)) ρ { σ with at_ := σ.at_.set i x } := by
  obtain ⟨⟨h1, h2, h3, h4⟩, ⟨h5, h6, h7⟩, ⟨h8, h9⟩, h10⟩ := RBlk.nd hnd
  have k := keeps_store w ρ.ga i (.int .i64 x)
  exact ⟨h.row.keeps k (by simpa using h3), h.bools.keeps k (by simpa using h6), h.strs.keeps k (by simpa using Ne.symm h10), h.tr.keeps k (by simpa using h8), h.at_.set i x |> fun t => by simpa using t, h.cap⟩
theorem RSndAt.setNow (h : RSndAt w ρ σ) (hnd : ρ.all.Nodup) (x : Int) : RSndAt (w.setCell ⟨ρ.b, 6, none⟩ (.int .i64 x)) ρ { σ with now := x } := by
  obtain ⟨⟨h1, h2, h3, h4⟩, ⟨h5, h6, h7⟩, ⟨h8, h9⟩, h10⟩ := RBlk.nd hnd
  have k := keeps_store w ρ.b 6 (.int .i64 x)
  exact ⟨h.row.set 6 (.int .i64 x), h.bools.keeps k (by simpa using Ne.symm h1), h.strs.keeps k (by simpa using Ne.symm h4), h.tr.keeps k (by simpa using Ne.symm h2), h.at_.keeps k (by simpa using Ne.symm h3), h.cap⟩
theorem RSndAt.setLost (h : RSndAt w ρ σ) (hnd : ρ.all.Nodup) (x : Bool) : RSndAt (w.setCell ⟨ρ.b, 7, none⟩ (.bool x)) ρ { σ with lost := x } := by
  obtain ⟨⟨h1, h2, h3, h4⟩, ⟨h5, h6, h7⟩, ⟨h8, h9⟩, h10⟩ := RBlk.nd hnd
  have k := keeps_store w ρ.b 7 (.bool x)
  exact ⟨h.row.set 7 (.bool x), h.bools.keeps k (by simpa using Ne.symm h1), h.strs.keeps k (by simpa using Ne.symm h4), h.tr.keeps k (by simpa using Ne.symm h2), h.at_.keeps k (by simpa using Ne.symm h3), h.cap⟩
theorem RSndAt.free (h : RSndAt w ρ σ) (i : Nat) : w.frozen? ⟨ρ.b, i, none⟩ = false := h.row.free i
theorem RSndAt.cStr (h : RSndAt w ρ σ) (i : Nat) (hi : i < σ.c.length) : w.cell? ⟨ρ.gx, ρ.ox + i, none⟩ = some (.string (σ.c.getD i ByteArray.empty)) := by
  rw [h.strs i (σ.c[i]) (List.getElem?_eq_getElem hi), List.getD_eq_getElem?_getD, List.getElem?_eq_getElem hi]; rfl
theorem RSndAt.all_lt (h : RSndAt w ρ σ) (ho : σ.Ok) (x : Nat) (hx : x ∈ ρ.all) : x < w.heap.size := by
  unfold RBlk.all at hx
  simp only [List.mem_cons, List.not_mem_nil, or_false] at hx
  have hs : ρ.gx < w.heap.size := by
    have hn := ho.n1
    have := h.cStr 0 (by omega)
    exact World.block_lt_of_cell? w ⟨ρ.gx, ρ.ox + 0, none⟩ this
  rcases hx with rfl | rfl | rfl | rfl | rfl
  · exact h.row.lt
  · exact h.bools.lt
  · exact h.tr.lt
  · exact h.at_.lt
  · exact hs
end

set_option maxRecDepth 100000 in
theorem rtick_full (ρ : RBlk) (σ : Snd) (w : World) (h : RSndAt w ρ σ) (ho : σ.Ok) (hf : baseL σ.l = σ.l.length) : Calls Try.prog 32 #[ptr ρ.b] w (RTickPost ρ σ w) := by
  have hT : tickS σ = ⟨15, [], σ⟩ := by unfold tickS; rw [if_pos hf]
  unfold RTickPost
  rw [hT]
  have c2 := h.c2
  have c3 := h.c3
  have hcap := h.cap
  have hn2 := ho.n2
  have ht : ((baseL σ.l : Int) == (σ.c.length : Int)) = true := by have := ho.ll; simp; omega
  have HS := Lib.hid h
  have HB := Lib.hid (rbase_any _ _ _ w h.bools)
  clear hT hf h ho
  generalize baseL σ.l = bs at *
  go_enter Try.func32, Try.ntmps32
  go_wp2_with fail
  refine (HB.out).mono ?_
  rintro e w' ⟨rfl, rfl⟩
  go_wp2_with fail
  go_ret2
  exact ⟨_, rfl, World.ownsRow_nil _ _ _ _, HS.out, Keeps.refl _ _⟩

set_option maxRecDepth 100000 in
theorem rtick_wasLost (ρ : RBlk) (σ : Snd) (w : World) (h : RSndAt w ρ σ) (ho : σ.Ok) (hf : baseL σ.l ≠ σ.l.length) (hlo : σ.lost = true) : Calls Try.prog 32 #[ptr ρ.b] w (RTickPost ρ σ w) := by
  have hT : tickS σ = ⟨16, [], σ⟩ := by unfold tickS; rw [if_neg hf, if_pos hlo]
  unfold RTickPost
  rw [hT]
  have c2 := h.c2
  have c3 := h.c3
  have c7 := h.c7
  rw [hlo] at c7
  have hcap := h.cap
  have hn2 := ho.n2
  have ht : ((baseL σ.l : Int) == (σ.c.length : Int)) = false := by have := ho.ll; simp; omega
  have HS := Lib.hid h
  have HB := Lib.hid (rbase_any _ _ _ w h.bools)
  clear hT hf h ho hlo
  generalize baseL σ.l = bs at *
  go_enter Try.func32, Try.ntmps32
  go_wp2_with fail
  refine (HB.out).mono ?_
  rintro e w' ⟨rfl, rfl⟩
  go_wp2_with fail
  go_ret2
  exact ⟨_, rfl, World.ownsRow_nil _ _ _ _, HS.out, Keeps.refl _ _⟩
end Go.Proofs.Ytffcambjdlkfbaa
