/- The sender's stores, the frames that go out, and Tick where nothing goes out. -/
import Derived.Test.YtffcambjdlkfbaaSendF
namespace Go.Proofs.Ytffcambjdlkfbaa
open Go.RowKit

theorem Try.info54 : (Try.prog.info? 54).map (fun i => (i.zero, i.size, i.bytes)) = some (some (.agg #[.int .i64 0, .int .i64 0, .int .i64 0, .int .i64 0, .int .i64 0, .string ByteArray.empty]), 6, 56) := by kernel_rfl

/-- The cells of the frame of chunk i. -/
def frameV (σ : Snd) (i : Int) : List Value := [.int .i64 1, .int .i64 σ.ses, .int .i64 σ.epo, .int .i64 i, .int .i64 σ.c.length, .string (σ.c.getD i.toNat ByteArray.empty)]
def framesV (σ : Snd) (ds : List Int) : List Value := ds.flatMap (frameV σ)
theorem framesV_snoc (σ : Snd) (ds : List Int) (d : Int) : framesV σ (ds ++ [d]) = framesV σ ds ++ frameV σ d := by unfold framesV; rw [List.flatMap_append]; simp

theorem SBlk.nd {β : SBlk} (h : β.all.Nodup) : (β.b ≠ β.bm ∧ β.b ≠ β.gc ∧ β.b ≠ β.gt ∧ β.b ≠ β.ga) ∧ (β.bm ≠ β.gc ∧ β.bm ≠ β.gt ∧ β.bm ≠ β.ga) ∧ (β.gc ≠ β.gt ∧ β.gc ≠ β.ga) ∧ β.gt ≠ β.ga := by
  unfold SBlk.all at h
  simp only [List.nodup_cons, List.mem_cons, List.not_mem_nil, not_or, or_false] at h
  exact ⟨h.1, h.2.1, h.2.2.1, h.2.2.2.1⟩

theorem keeps_store (w : World) (g i : Nat) (v : Value) : Keeps [g] w (w.setCell ⟨g, i, none⟩ v) := (Keeps.refl [g] w).setCell (p := ⟨g, i, none⟩) (Or.inl (by simp)) v

section
variable {w : World} {β : SBlk} {σ : Snd}
theorem SndAt.setTr (h : SndAt w β σ) (hnd : β.all.Nodup) (i : Nat) (x : Int) : SndAt (w.setCell ⟨β.gt, i, none⟩ (.int .i64 x)) β { σ with tr := σ.tr.set i x } := by
  obtain ⟨⟨h1, h2, h3, h4⟩, ⟨h5, h6, h7⟩, ⟨h8, h9⟩, h10⟩ := SBlk.nd hnd
  have k := keeps_store w β.gt i (.int .i64 x)
  exact ⟨h.row.keeps k (by simpa using h3), h.map.keeps k (by simpa using h6), h.strs.keeps k (by simpa using h8), h.tr.set i x |> fun t => by simpa using t, h.at_.keeps k (by simpa using Ne.symm h10), h.cap⟩
theorem SndAt.setAt (h : SndAt w β σ) (hnd : β.all.Nodup) (i : Nat) (x : Int) : SndAt (w.setCell ⟨β.ga, i, none⟩ (.int .i64 x)) β { σ with at_ := σ.at_.set i x } := by
  obtain ⟨⟨h1, h2, h3, h4⟩, ⟨h5, h6, h7⟩, ⟨h8, h9⟩, h10⟩ := SBlk.nd hnd
  have k := keeps_store w β.ga i (.int .i64 x)
  exact ⟨h.row.keeps k (by simpa using h4), h.map.keeps k (by simpa using h7), h.strs.keeps k (by simpa using h9), h.tr.keeps k (by simpa using h10), h.at_.set i x |> fun t => by simpa using t, h.cap⟩
theorem SndAt.setNow (h : SndAt w β σ) (hnd : β.all.Nodup) (x : Int) : SndAt (w.setCell ⟨β.b, 6, none⟩ (.int .i64 x)) β { σ with now := x } := by
  obtain ⟨⟨h1, h2, h3, h4⟩, ⟨h5, h6, h7⟩, ⟨h8, h9⟩, h10⟩ := SBlk.nd hnd
  have k := keeps_store w β.b 6 (.int .i64 x)
  exact ⟨h.row.set 6 (.int .i64 x), h.map.keeps k (by simpa using Ne.symm h1), h.strs.keeps k (by simpa using Ne.symm h2), h.tr.keeps k (by simpa using Ne.symm h3), h.at_.keeps k (by simpa using Ne.symm h4), h.cap⟩
theorem SndAt.setLost (h : SndAt w β σ) (hnd : β.all.Nodup) (x : Bool) : SndAt (w.setCell ⟨β.b, 7, none⟩ (.bool x)) β { σ with lost := x } := by
  obtain ⟨⟨h1, h2, h3, h4⟩, ⟨h5, h6, h7⟩, ⟨h8, h9⟩, h10⟩ := SBlk.nd hnd
  have k := keeps_store w β.b 7 (.bool x)
  exact ⟨h.row.set 7 (.bool x), h.map.keeps k (by simpa using Ne.symm h1), h.strs.keeps k (by simpa using Ne.symm h2), h.tr.keeps k (by simpa using Ne.symm h3), h.at_.keeps k (by simpa using Ne.symm h4), h.cap⟩
theorem SndAt.free (h : SndAt w β σ) (i : Nat) : w.frozen? ⟨β.b, i, none⟩ = false := h.row.free i
theorem SndAt.cStr (h : SndAt w β σ) (i : Nat) (hi : i < σ.c.length) : w.cell? ⟨β.gc, i, none⟩ = some (.string (σ.c.getD i ByteArray.empty)) := by
  have := h.strs i (σ.c[i]) (List.getElem?_eq_getElem hi)
  rw [Nat.zero_add] at this
  rw [this, List.getD_eq_getElem?_getD, List.getElem?_eq_getElem hi]; rfl
end

/-- What Tick leaves. -/
def TickPost (β : SBlk) (σ : Snd) (w : World) (e : Ending) (w' : World) : Prop :=
  ∃ v, e = .returned (.tuple #[v, .int .i64 (tickS σ).err]) ∧ w'.ownsRow w.heap.size 54 6 v (tickS σ).due.length (framesV σ (tickS σ).due) ∧ SndAt w' β (tickS σ).s ∧ Keeps β.foot w w'

theorem tick_full (β : SBlk) (σ : Snd) (w : World) (h : SndAt w β σ) (hf : baseL σ.l = σ.l.length) : Calls Try.prog 31 #[ptr β.b] w (TickPost β σ w) := by
  have hT : tickS σ = ⟨15, [], σ⟩ := by unfold tickS; rw [if_pos hf]
  unfold TickPost
  rw [hT]
  have hk1 : Keeps [] w (w.alloc (.cells #[ptr β.b] 47)) := (Keeps.refl [] w).alloc _
  have cb : (w.alloc (.cells #[ptr β.b] 47)).cell? ⟨w.heap.size, 0, none⟩ = some (ptr β.b) := (RowAt.new w 47 [ptr β.b]).cell 0
  have c0' := hk1.cell (by simp) h.c0
  have HF := Lib.hid (show (baseL σ.l == σ.l.length) = true from by simpa using hf)
  have HS := Lib.hid h
  have HK1 := Lib.hid hk1
  clear hT hf h hk1
  go_enter Try.func31, Try.ntmps31
  go_wp2_with fail
  refine (full_lit β.bm σ.l true _ (HS.out.map.keeps HK1.out (by simp)) HF.out).mono ?_
  rintro e w' ⟨rfl, hk⟩
  have hk := Lib.hid hk
  go_wp2_with fail
  go_ret2
  exact ⟨_, rfl, World.ownsRow_nil _ _ _ _, HS.out.quiet (HK1.out.trans hk.out), (HK1.out.trans hk.out).mono (by simp)⟩

theorem tick_wasLost (β : SBlk) (σ : Snd) (w : World) (h : SndAt w β σ) (hf : baseL σ.l ≠ σ.l.length) (hlo : σ.lost = true) : Calls Try.prog 31 #[ptr β.b] w (TickPost β σ w) := by
  have hT : tickS σ = ⟨16, [], σ⟩ := by unfold tickS; rw [if_neg hf, if_pos hlo]
  unfold TickPost
  rw [hT]
  have hk1 : Keeps [] w (w.alloc (.cells #[ptr β.b] 47)) := (Keeps.refl [] w).alloc _
  have cb : (w.alloc (.cells #[ptr β.b] 47)).cell? ⟨w.heap.size, 0, none⟩ = some (ptr β.b) := (RowAt.new w 47 [ptr β.b]).cell 0
  have c0' := hk1.cell (by simp) h.c0
  have c7' := hk1.cell (by simp) h.c7
  rw [hlo] at c7'
  have HF := Lib.hid (show (baseL σ.l == σ.l.length) = false from by simpa using hf)
  have HS := Lib.hid h
  have HK1 := Lib.hid hk1
  have HCB := Lib.hid cb
  have HC7 := Lib.hid c7'
  clear hT hf h hk1 hlo c7'
  go_enter Try.func31, Try.ntmps31
  go_wp2_with fail
  refine (full_lit β.bm σ.l false _ (HS.out.map.keeps HK1.out (by simp)) HF.out).mono ?_
  rintro e w' ⟨rfl, hk⟩
  have cb2 := hk.cell (by simp) HCB.out
  have c7 := hk.cell (by simp) HC7.out
  have hk := Lib.hid hk
  go_wp2_with fail
  go_ret2
  exact ⟨_, rfl, World.ownsRow_nil _ _ _ _, HS.out.quiet (HK1.out.trans hk.out), (HK1.out.trans hk.out).mono (by simp)⟩
end Go.Proofs.Ytffcambjdlkfbaa
