/- The sender's Tick where frames go out. -/
import Derived.Test.YtffcambjdlkfbaaSendH
namespace Go.Proofs.Ytffcambjdlkfbaa
open Go.RowKit

/-- The sender while a tick's frames go out: those of the first k of ds are counted. -/
def midS (σ : Snd) (ds : List Int) (k : Nat) : Snd := { σ with tr := trF σ.tr (ds.take k), at_ := atF σ.at_ σ.now (ds.take k) }

theorem midS_ok (σ : Snd) (ds : List Int) (k : Nat) (ho : σ.Ok) (hd : ds.Nodup) (h0 : ∀ d ∈ ds, 0 ≤ d) (h8 : ∀ d ∈ ds, σ.tr.getD d.toNat 0 < 8) : (midS σ ds k).Ok := by
  have hm : ∀ d ∈ ds.take k, d ∈ ds := fun d hd => List.mem_of_mem_take hd
  exact ⟨ho.n1, ho.n2, ho.ll, by unfold midS; dsimp only; rw [trF_length]; exact ho.lt, by unfold midS; dsimp only; rw [atF_length]; exact ho.la,
    trF_range _ _ (List.Sublist.nodup (List.take_sublist k ds) hd) (fun d hdm => h0 d (hm d hdm)) ho.trOk (fun d hdm => h8 d (hm d hdm)), atF_range _ ho.nowOk _ _ ho.atOk, ho.nowOk⟩

theorem midS_succ (σ : Snd) (ds : List Int) (k i : Nat) (hk : k < ds.length) (hi : ds.getD k 0 = (i : Int)) :
    midS σ ds (k + 1) = { midS σ ds k with tr := (midS σ ds k).tr.set i ((midS σ ds k).tr.getD i 0 + 1), at_ := (midS σ ds k).at_.set i (midS σ ds k).now } := by
  unfold midS
  dsimp only
  rw [take_succ_get ds k hk, trF_snoc, atF_snoc, hi]
  simp

theorem mid_fresh (σ : Snd) (ds : List Int) (k i : Nat) (hk : k < ds.length) (hi : ds.getD k 0 = (i : Int)) (hd : ds.Nodup) (h0 : ∀ d ∈ ds, 0 ≤ d) (h8 : ∀ d ∈ ds, σ.tr.getD d.toNat 0 < 8) : (midS σ ds k).tr.getD i 0 < 8 ∧ 0 ≤ (midS σ ds k).tr.getD i 0 ∨ ¬ (∀ j, 0 ≤ σ.tr.getD j 0) := by
  by_cases hp : ∀ j, 0 ≤ σ.tr.getD j 0
  · left
    have hgk : ds[k] = (i : Int) := by rw [List.getD_eq_getElem?_getD, List.getElem?_eq_getElem hk] at hi; exact hi
    have hmem : (i : Int) ∈ ds := by rw [← hgk]; exact List.getElem_mem hk
    have h8i := h8 _ hmem
    simp only [Int.toNat_natCast] at h8i
    unfold midS
    dsimp only
    rw [trF_other (ds.take k) σ.tr i (fun d hdm => by
      intro e
      have hd0 := h0 d (List.mem_of_mem_take hdm)
      have hdi : d = ds[k] := by rw [hgk]; omega
      obtain ⟨j, hj, hje⟩ := List.mem_iff_getElem.1 hdm
      have hjk : j < k := by simp at hj; omega
      rw [List.getElem_take] at hje
      have := (List.getElem_inj (h₀ := by omega) (h₁ := hk) hd).1 (hje.trans hdi)
      omega)]
    exact ⟨h8i, hp i⟩
  · exact .inr hp

theorem frameV_cells (σ : Snd) (i : Nat) (u : World) : ∀ j v, (frameV σ i)[j]? = some v → (u.alloc (.cells (frameV σ i).toArray 54)).cell? ((⟨u.heap.size, 0, none⟩ : Addr).add j) = some v := by
  have := World.news_of_block (w := u.alloc (.cells (frameV σ i).toArray 54)) (B := u.heap.size) (cs := (frameV σ i).toArray) (t := 54) (fr := (0, 0)) (heap_alloc_new u _)
  simpa using this

set_option maxRecDepth 100000 in
set_option maxHeartbeats 4000000 in
theorem tick_sends (β : SBlk) (σ : Snd) (w : World) (h : SndAt w β σ) (ho : σ.Ok) (hnd : β.all.Nodup) (hn : σ.now ≤ 999999) (hf : baseL σ.l ≠ σ.l.length) (hlo : σ.lost = false)
    (hover : lostB σ.tr (dueL σ.l σ.tr σ.at_ (σ.now + 1)) = false) : Calls Try.prog 31 #[ptr β.b] w (TickPost β σ w) := by
  obtain ⟨i0, hi0, hz0, hz1, hz2⟩ := info_parts Try.info54
  generalize hσ1 : ({ σ with now := σ.now + 1 } : Snd) = σ1
  generalize hds : dueL σ.l σ.tr σ.at_ (σ.now + 1) = ds at *
  have hT : tickS σ = ⟨0, ds, midS σ1 ds ds.length⟩ := by
    unfold tickS midS
    rw [if_neg hf, if_neg (by simp [hlo])]; dsimp only; rw [hds, if_neg (by simp [hover]), List.take_length, ← hσ1]
  unfold TickPost
  rw [hT]
  have hds1 : dueL σ1.l σ1.tr σ1.at_ σ1.now = ds := by rw [← hσ1]; exact hds
  have hnow := ho.nowOk
  have hll := ho.ll
  have hn2 := ho.n2
  have hk1 : Keeps [] w (w.alloc (.cells #[ptr β.b] 47)) := (Keeps.refl [] w).alloc _
  have cb : (w.alloc (.cells #[ptr β.b] 47)).cell? ⟨w.heap.size, 0, none⟩ = some (ptr β.b) := (RowAt.new w 47 [ptr β.b]).cell 0
  have c0' := hk1.cell (by simp) h.c0
  have HF := Lib.hid (show (baseL σ.l == σ.l.length) = false from by simpa using hf)
  have HS := Lib.hid h
  have HK1 := Lib.hid hk1
  have HCB := Lib.hid cb
  have HND := Lib.hid hnd
  have HLO := Lib.hid hlo
  have HOV := Lib.hid hover
  have hlt := Lib.hid (h.row.lt)
  have hdl : ds.length ≤ 256 := by have := dueL_length σ.l σ.tr σ.at_ (σ.now + 1); rw [hds] at this; omega
  have hdm : ∀ x ∈ ds, ∃ i : Nat, x = i ∧ i < σ.c.length := fun x hx => by rw [← hds] at hx; obtain ⟨i, rfl, hi⟩ := dueL_mem _ _ _ _ x hx; exact ⟨i, rfl, by omega⟩
  have HDM := Lib.hid hdm
  have HDN := Lib.hid (show ds.Nodup from by rw [← hds]; exact dueL_nodup _ _ _ _)
  have HO2 := Lib.hid (show σ1.Ok from by rw [← hσ1]; exact nowOk1 σ ho hn)
  have h8 : ∀ d ∈ ds, σ1.tr.getD d.toNat 0 < 8 := fun d hd => by
    rcases Int.lt_or_le (σ.tr.getD d.toNat 0) 8 with h8 | h8
    · rw [← hσ1]; exact h8
    · exfalso
      have : lostB σ.tr ds = true := by unfold lostB; exact List.any_eq_true.2 ⟨d, hd, by simpa using h8⟩
      rw [this] at hover; cases hover
  have H8 := Lib.hid h8
  have hany : ds.any (overS σ1) = false := by rw [← hσ1]; exact hover
  have HAny := Lib.hid hany
  have HD1 := Lib.hid hds1
  have HC := Lib.hid (show σ1.c.length = σ.c.length from by rw [← hσ1])
  have HFT := Lib.hid (fun x hx => foot_lt h ho x hx)
  clear hT hf h hk1 hlo ho hnd hover h8 hdm hds hany hds1
  go_enter Try.func31, Try.ntmps31
  go_wp2_with fail
  refine (full_lit β.bm σ.l false _ (HS.out.map.keeps HK1.out (by simp)) HF.out).mono ?_
  rintro e w1 ⟨rfl, hk⟩
  have cb2 := hk.cell (by simp) HCB.out
  have HS1 := Lib.hid (HS.out.quiet (HK1.out.trans hk))
  have c7 := HS1.out.c7
  rw [HLO.out] at c7
  have c6 := HS1.out.c6
  have f6 := HS1.out.free 6
  have HK2 := Lib.hid (HK1.out.trans hk)
  clear hk
  have hbne : β.b ≠ w.heap.size := by have := hlt.out; omega
  have HS2 := Lib.hid (hσ1 ▸ HS1.out.setNow HND.out (σ.now + 1))
  have cb3 : (w1.setCell ⟨β.b, 6, none⟩ (.int .i64 (σ.now + 1))).cell? ⟨w.heap.size, 0, none⟩ = some (ptr β.b) := (keeps_store w1 β.b 6 _).cell (by simpa using Ne.symm hbne) cb2
  have HCB3 := Lib.hid cb3
  have cb3 := HCB3.out
  have HK3 := Lib.hid (keeps_store w1 β.b 6 (.int .i64 (σ.now + 1)))
  have hwz : w.heap.size < (w.alloc (.cells #[ptr β.b] 47)).heap.size := by simp
  go_wp2_with fail
  refine (due_any β σ1 _ HS2.out HO2.out).mono ?_
  rintro e w2 ⟨v, rfl, hr, hk2, hb2⟩
  have cb4 := hk2.cell (by simp) HCB3.out
  have HS3 := Lib.hid (HS2.out.quiet hk2)
  have HK4 := Lib.hid hk2
  rw [HD1.out] at hr
  have hc := containsFunc_any 65 w.heap.size [] (overS σ1) v _ w2 (by omega) enters65 hr (asks65 cb4 (HS2.out.quiet hk2) HO2.out _ (fun x hx => by
    obtain ⟨i, rfl, hi⟩ := HDM.out x hx
    exact ⟨i, rfl, by rw [HC.out]; exact hi⟩))
  rw [HAny.out] at hc
  have HCont := Lib.hid hc
  have HB2 := Lib.hid (show ∀ k, v.ownBlock = some k → w.heap.size < k from fun k hk => by have h1 := hb2 k hk; have h2 := HK2.out.size; have h3 := HK3.out.size; omega)
  have HR := Lib.hid hr
  clear hc hr hk2 hb2
  go_wp2_with fail
  refine (HCont.out).mono ?_
  rintro e w3 ⟨rfl, n, rfl⟩
  have HKall := Lib.hid (show Keeps [β.b] w (w2.drewN n) from (((HK2.out.mono (by simp)).trans HK3.out).trans (HK4.out.mono (by simp))).trans ((Keeps.of_drewN w2 n).mono (by simp)))
  have HS4 := Lib.hid (HS3.out.quiet (Keeps.of_drewN w2 n))
  have HCB5 := Lib.hid (show (w2.drewN n).cell? ⟨w.heap.size, 0, none⟩ = some (ptr β.b) from cb4)
  have HR5 := Lib.hid (show Reads (w2.drewN n) v (ds.map (Value.int .i64)) from HR.out.keeps (Keeps.of_drewN w2 n) (by simp))
  generalize w2.drewN n = w5 at *
  have hzero : midS σ1 ds 0 = σ1 := by unfold midS trF atF; simp
  rcases HR5.out with ⟨hv, hnil⟩ | ⟨gd, od, cd, hv, hl1, hl2, hl3⟩
  · have hnil' : ds = [] := by simpa using hnil
    subst hnil'
    subst hv
    go_wp2_with fail
    refine wp_loop_rounds 1 ?_
    rw [rounds_succ]
    go_wp2_with fail
    go_ret2
    exact ⟨_, rfl, World.ownsRow_nil _ _ _ _, by rw [show ([] : List Int).length = 0 from rfl, hzero]; exact HS4.out, HKall.out.mono (by unfold SBlk.foot; simp)⟩
  · subst hv
    have HL3 := Lib.hid hl3; clear hl3
    rw [List.length_map] at hl1 HCont HR HB2 HR5 ⊢
    have hgd := HB2.out gd rfl
    have hsz5 := HKall.out.size
    unfold maxLen at hl2
    go_wp2_with fail
    go_loopw [2, 38] (fun v c wr => ∃ k : Nat, k ≤ ds.length ∧ c = .int .i64 k ∧ wr.ownsRow w5.heap.size 54 6 v k (framesV σ1 (ds.take k)) ∧ SndAt wr β (midS σ1 ds k) ∧ Keeps β.foot w5 wr) (fun _ c _ => ds.length - (intOf c).toNat)
    case atStart => exact ⟨0, Nat.zero_le _, rfl, World.ownsRow_nil _ _ _ _, hzero ▸ HS4.out, Keeps.refl _ _⟩
    case round =>
      obtain ⟨k, hk, rfl, hown, hS, hK⟩ := hrel
      by_cases hlt : k < ds.length
      · obtain ⟨i, hi, hin⟩ := HDM.out (ds.getD k 0) (getD_mem ds k hlt)
        have hsrc : w5.cell? ⟨gd, od + k, none⟩ = some (.int .i64 i) := HL3.out k _ (by
          rw [List.getElem?_map, List.getElem?_eq_getElem hlt]
          rw [List.getD_eq_getElem?_getD, List.getElem?_eq_getElem hlt] at hi
          have hi' : ds[k] = (i : Int) := hi
          rw [hi']; rfl)
        have hnf : ∀ x, w.heap.size ≤ x → x ∉ β.foot := fun x hx hm => by have := HFT.out x hm; omega
        have hcell := hK.cell (p := ⟨gd, od + k, none⟩) (hnf gd (by omega)) hsrc
        have hbox := hK.cell (p := ⟨w.heap.size, 0, none⟩) (hnf _ (Nat.le_refl _)) HCB5.out
        have hx : (midS σ1 ds k).tr.getD i 0 < 8 ∧ 0 ≤ (midS σ1 ds k).tr.getD i 0 := by
          rcases mid_fresh σ1 ds k i hlt hi HDN.out (fun d hd => by obtain ⟨j, rfl, _⟩ := HDM.out d hd; omega) H8.out with h | h
          · exact h
          · exact absurd (fun j => (HO2.out.trOk j).1) h
        have hsucc := midS_succ σ1 ds k i hlt hi
        have hfr : frameV σ1 i = frameV (midS σ1 ds k) i := rfl
        have hnow1 := HO2.out.nowOk
        have hMn : (midS σ1 ds k).now = σ1.now := rfl
        have hMc : (midS σ1 ds k).c.length = σ.c.length := HC.out
        have hMt : (midS σ1 ds k).tr.length = σ.c.length := by unfold midS; dsimp only; rw [trF_length, HO2.out.lt, HC.out]
        have hMa : (midS σ1 ds k).at_.length = σ.c.length := by unfold midS; dsimp only; rw [atF_length, HO2.out.la, HC.out]
        have hframes : framesV σ1 (ds.take (k + 1)) = framesV σ1 (ds.take k) ++ frameV (midS σ1 ds k) i := by rw [take_succ_get ds k hlt, framesV_snoc, hi, hfr]
        have HFr := Lib.hid hframes
        have HSucc := Lib.hid hsucc
        clear hframes hsucc hfr hsrc hnf
        generalize midS σ1 ds k = M at *
        generalize framesV σ1 (ds.take k) = fs at *
        have c4 := hS.c4
        have ct := hS.tr.cell i (by omega)
        have ft := hS.tr.free i
        have hAS := hS.setTr HND.out i (M.tr.getD i 0 + 1)
        have hAb : (wr.setCell ⟨β.gt, i, none⟩ (.int .i64 (M.tr.getD i 0 + 1))).cell? ⟨w.heap.size, 0, none⟩ = some (ptr β.b) := (keeps_store wr β.gt i _).cell (by have := HFT.out β.gt (by unfold SBlk.foot; simp); simp; omega) hbox
        have c5 := hAS.c5
        have c6 := hAS.c6
        have fa := hAS.at_.free i
        have hBS := Lib.hid (hAS.setAt HND.out i M.now)
        have hBb := Lib.hid ((keeps_store _ β.ga i (.int .i64 M.now)).cell (by have := HFT.out β.ga (by unfold SBlk.foot; simp); simp; omega) hAb)
        have HOwn := Lib.hid hown
        have HKr := Lib.hid hK
        have HAS := Lib.hid hAS
        dsimp only at c5 c6
        have ca := hAS.at_.cell i (by dsimp only; omega)
        have hiM : i < M.c.length := by omega
        have hnM : M.c.length ≤ 256 := by omega
        have hnow0 : 0 ≤ M.now ∧ M.now ≤ 1000000 := by rw [hMn]; exact hnow1
        have hltu : ∀ g, u2.ownBlock = some g → w5.heap.size ≤ g := fun g hg => (hown.lt g hg).1
        have hKw : Keeps β.foot w5 ((wr.setCell ⟨β.gt, i, none⟩ (.int .i64 (M.tr.getD i 0 + 1))).setCell ⟨β.ga, i, none⟩ (.int .i64 M.now)) :=
          (hK.setCell (p := ⟨β.gt, i, none⟩) (Or.inl (by unfold SBlk.foot; simp)) _).setCell (p := ⟨β.ga, i, none⟩) (Or.inl (by unfold SBlk.foot; simp)) _
        have hKo : Keeps β.foot wr ((wr.setCell ⟨β.gt, i, none⟩ (.int .i64 (M.tr.getD i 0 + 1))).setCell ⟨β.ga, i, none⟩ (.int .i64 M.now)) :=
          ((Keeps.refl β.foot wr).setCell (p := ⟨β.gt, i, none⟩) (Or.inl (by unfold SBlk.foot; simp)) _).setCell (p := ⟨β.ga, i, none⟩) (Or.inl (by unfold SBlk.foot; simp)) _
        have hownW := hKo.owns hown (fun g hg hm => by have h1 := hltu g hg; have h2 := HFT.out g hm; omega)
        have HKW := Lib.hid hKw
        have HOW := Lib.hid hownW
        have HLU := Lib.hid hltu
        clear hown hK hAS hS hKw hKo hownW hltu hMn hMc hMt hMa HOwn HKr HAS
        generalize hX : M.tr.getD i 0 = x at *
        have HX := Lib.hid hX; clear hX
        go_wp2_with fail
        go_region
        go_wp2_with fail
        have hS8 : SndAt (((wr.setCell ⟨β.gt, i, none⟩ (.int .i64 (x + 1))).setCell ⟨β.ga, i, none⟩ (.int .i64 M.now)).drew) β { M with tr := M.tr.set i (x + 1), at_ := M.at_.set i M.now } := hBS.out.quiet ((Keeps.refl [] _).drew)
        have hK8 := HKW.out.drew
        have hO8 : (((wr.setCell ⟨β.gt, i, none⟩ (.int .i64 (x + 1))).setCell ⟨β.ga, i, none⟩ (.int .i64 M.now)).drew).ownsRow w5.heap.size 54 6 u2 k fs := HOW.out
        have hb8 : (((wr.setCell ⟨β.gt, i, none⟩ (.int .i64 (x + 1))).setCell ⟨β.ga, i, none⟩ (.int .i64 M.now)).drew).cell? ⟨w.heap.size, 0, none⟩ = some (ptr β.b) := hBb.out
        have hS8 := Lib.hid hS8
        have hK8 := Lib.hid hK8
        have hO8 := Lib.hid hO8
        rename_i hS80 hK80 hO80
        clear hS80 hK80 hO80 HKW HOW hBS hBb ca fa c6 c5 hAb
        generalize (((wr.setCell ⟨β.gt, i, none⟩ (.int .i64 (x + 1))).setCell ⟨β.ga, i, none⟩ (.int .i64 M.now)).drew) = w8 at *
        have g1 := hS8.out.c1
        have g2 := hS8.out.c2
        have g3 := hS8.out.c3
        have gs := hS8.out.cStr i hiM
        dsimp only at g1 g2 g3 gs
        have hsz8 := hK8.out.size
        generalize hst : M.c.getD i ByteArray.empty = st at *
        have HST := Lib.hid hst; clear hst
        have hcellsA : ∀ w', Keeps [] w8 w' → (w'.cell? ⟨w.heap.size, 0, none⟩ = some (ptr β.b) ∧ w'.cell? ⟨β.b, 1, none⟩ = some (.int .i64 M.ses) ∧ w'.cell? ⟨β.b, 2, none⟩ = some (.int .i64 M.epo) ∧ w'.cell? ⟨β.b, 3, none⟩ = some (sl β.gc M.c.length β.cc) ∧ w'.cell? ⟨β.gc, i, none⟩ = some (.string st)) :=
          fun w' hk => ⟨hk.cell (by simp) hb8, hk.cell (by simp) g1, hk.cell (by simp) g2, hk.cell (by simp) g3, hk.cell (by simp) gs⟩
        have hcellsG : ∀ w' : World, (w8.alloc (.cells #[.int .i64 1, .int .i64 M.ses, .int .i64 M.epo, .int .i64 i, .int .i64 M.c.length, .string st] 54)).drew.grownBy w' u2.ownBlock → (w'.cell? ⟨w.heap.size, 0, none⟩ = some (ptr β.b) ∧ w'.cell? ⟨β.b, 1, none⟩ = some (.int .i64 M.ses) ∧ w'.cell? ⟨β.b, 2, none⟩ = some (.int .i64 M.epo) ∧ w'.cell? ⟨β.b, 3, none⟩ = some (sl β.gc M.c.length β.cc) ∧ w'.cell? ⟨β.gc, i, none⟩ = some (.string st)) ∧ Keeps u2.ownBlock.toList w8 w' := fun w' hg => by
          have hk : Keeps u2.ownBlock.toList w8 w' := ((Keeps.refl _ w8).alloc _).drew.grown hg (fun j hj => Or.inl (by rw [hj]; simp))
          have hn : ∀ g, g < w5.heap.size → g ∉ u2.ownBlock.toList := fun g hg hm => by
            have := HLU.out g (by simpa using hm); omega
          have hb5 : ∀ g ∈ β.all, g < w5.heap.size := fun g hg => HS4.out.all_lt HO2.out g hg
          have hbb := hb5 β.b (by unfold SBlk.all; simp)
          have hbc := hb5 β.gc (by unfold SBlk.all; simp)
          have hwb : w.heap.size < w5.heap.size := World.block_lt_of_cell? w5 _ HCB5.out
          exact ⟨⟨hk.cell (hn _ hwb) hb8, hk.cell (hn _ hbb) g1, hk.cell (hn _ hbb) g2, hk.cell (hn _ hbb) g3, hk.cell (hn _ hbc) gs⟩, hk⟩
        have HCA := Lib.hid (hcellsA _ ((Keeps.refl [] w8).alloc (.cells #[.int .i64 1, .int .i64 M.ses, .int .i64 M.epo, .int .i64 i, .int .i64 M.c.length, .string st] 54)))
        have HC0 := Lib.hid (hcellsA _ (Keeps.refl [] w8))
        have HCG := Lib.hid hcellsG
        have H63 := Lib.hid (show k + 1 ≤ maxLen from by unfold maxLen; omega)
        have HBY := Lib.hid (show (k + 1) * 56 ≤ 140737488355328 from by omega)
        have HBase := Lib.hid (show w5.heap.size ≤ (w8.alloc (.cells #[.int .i64 1, .int .i64 M.ses, .int .i64 M.epo, .int .i64 i, .int .i64 M.c.length, .string st] 54)).drew.heap.size from by simp [World.drew]; omega)
        have HNews := Lib.hid (World.news_of_block (w := (w8.alloc (.cells #[.int .i64 1, .int .i64 M.ses, .int .i64 M.epo, .int .i64 i, .int .i64 M.c.length, .string st] 54)).drew) (B := w8.heap.size) (cs := #[.int .i64 1, .int .i64 M.ses, .int .i64 M.epo, .int .i64 i, .int .i64 M.c.length, .string st]) (t := 54) (fr := (0, 0)) (heap_alloc_new w8 _))
        have HOneC := Lib.hid (show ∀ u ∈ [Value.int .i64 1, .int .i64 M.ses, .int .i64 M.epo, .int .i64 i, .int .i64 M.c.length, .string st], u.oneCell' = true from by simp [Value.oneCell'])
        have HOA := Lib.hid (show ((w8.alloc (.cells #[.int .i64 1, .int .i64 M.ses, .int .i64 M.epo, .int .i64 i, .int .i64 M.c.length, .string st] 54)).drew).ownsRow w5.heap.size 54 6 u2 k fs from hO8.out.alloc _)
        clear hcellsA hcellsG
        go_region_held3 (fun w' => w'.cell? ⟨w.heap.size, 0, none⟩ = some (ptr β.b) ∧ w'.cell? ⟨β.b, 1, none⟩ = some (.int .i64 M.ses) ∧ w'.cell? ⟨β.b, 2, none⟩ = some (.int .i64 M.epo) ∧ w'.cell? ⟨β.b, 3, none⟩ = some (sl β.gc M.c.length β.cc) ∧ w'.cell? ⟨β.gc, i, none⟩ = some (.string st))
          (first | exact (HCG.out _ hgrow).1 | exact HCA.out | exact HC0.out)
          ((refine step_append_lies _ (by rfl) _ _ _ (by rfl) w5.heap.size 54 i0 _ 6 56 Try.underlying57 hi0 hz0 hz1 hz2 rfl (by omega) u2 k fs (by rfl) HOA.out ⟨w8.heap.size, 0, none⟩ 1 1 [.int .i64 1, .int .i64 M.ses, .int .i64 M.epo, .int .i64 i, .int .i64 M.c.length, .string st] (by rfl) (by rfl) HNews.out HOneC.out (by omega) H63.out HBY.out HBase.out (w8.heap.size + 1) (by simp [World.drew]) ?_; intro gg cap9 w9 hown9 hgrow hat9 hlt9))
        go_wp2_with fail
        have hkg := (HCG.out _ hgrow).2
        have hnf2 : ∀ g ∈ β.all, g ∉ u2.ownBlock.toList := fun g hg hm => by
          have h1 := HLU.out g (by simpa using hm)
          have h2 := HS4.out.all_lt HO2.out g hg
          omega
        refine ⟨⟨k + 1, by omega, by go_num, ?_, ?_, ?_⟩, by simp [intOf]; omega⟩
        · have e : frameV M i = [.int .i64 1, .int .i64 M.ses, .int .i64 M.epo, .int .i64 i, .int .i64 M.c.length, .string st] := by unfold frameV; rw [Int.toNat_natCast, HST.out]
          rw [HFr.out, e]; exact hown9
        · rw [HSucc.out]; exact hS8.out.keeps hkg hnf2
        · exact hK8.out.then hkg (fun g hg => Or.inr (HLU.out g (by simpa using hg)))
      · have hkd : k = ds.length := by omega
        subst hkd
        rw [List.take_length] at hown
        have hfs : framesV σ ds = framesV σ1 ds := by subst hσ1; rfl
        have hown := Lib.hid hown
        have hS := Lib.hid hS
        have hK := Lib.hid hK
        rename_i hown0 hS0 hK0
        clear hown0 hS0 hK0
        go_wp2_with fail
        go_ret2
        exact ⟨_, rfl, by rw [hfs]; exact owns_mono hown.out hsz5, hS.out, (HKall.out.mono (by unfold SBlk.foot; simp)).trans hK.out⟩

/-- Tick. -/
theorem sTick_any (β : SBlk) (σ : Snd) (w : World) (h : SndAt w β σ) (ho : σ.Ok) (hnd : β.all.Nodup) (hn : σ.now ≤ 999999) : Calls Try.prog 31 #[ptr β.b] w (TickPost β σ w) := by
  by_cases hf : baseL σ.l = σ.l.length
  · exact tick_full β σ w h hf
  · cases hlo : σ.lost with
    | true => exact tick_wasLost β σ w h hf hlo
    | false =>
      cases ho2 : lostB σ.tr (dueL σ.l σ.tr σ.at_ (σ.now + 1)) with
      | true => exact tick_loses β σ w h ho hnd hn hf hlo ho2
      | false => exact tick_sends β σ w h ho hnd hn hf hlo ho2
end Go.Proofs.Ytffcambjdlkfbaa
