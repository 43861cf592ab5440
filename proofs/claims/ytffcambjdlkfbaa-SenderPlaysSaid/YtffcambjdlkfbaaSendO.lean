/- The reference of layer 13 (signpostref13): Tick, where it looks for what is due. -/
import Derived.Test.YtffcambjdlkfbaaSendN
import Derived.Deep.CutBlock
namespace Go.Proofs.Ytffcambjdlkfbaa
open Go.RowKit

theorem tick_lost_eq (σ : Snd) (hf : baseL σ.l ≠ σ.l.length) (hlo : σ.lost = false) (h : lostB σ.tr (dueL σ.l σ.tr σ.at_ (σ.now + 1)) = true) : tickS σ = ⟨16, [], { σ with now := σ.now + 1, lost := true }⟩ := by
  unfold tickS; rw [if_neg hf, if_neg (by simp [hlo])]; dsimp only; rw [if_pos h]
theorem tick_sent_eq (σ : Snd) (hf : baseL σ.l ≠ σ.l.length) (hlo : σ.lost = false) (h : lostB σ.tr (dueL σ.l σ.tr σ.at_ (σ.now + 1)) = false) :
    tickS σ = ⟨0, dueL σ.l σ.tr σ.at_ (σ.now + 1), midS { σ with now := σ.now + 1 } (dueL σ.l σ.tr σ.at_ (σ.now + 1)) (dueL σ.l σ.tr σ.at_ (σ.now + 1)).length⟩ := by
  unfold tickS midS
  rw [if_neg hf, if_neg (by simp [hlo])]; dsimp only; rw [if_neg (by simp [h]), List.take_length]

theorem news_one (w8 : World) (k : Nat) : ∀ (j : Nat) (u : Value), [Value.int .i64 (k : Int)][j]? = some u → (w8.alloc (.cells #[.int .i64 (k : Int)] 3)).cell? ((⟨w8.heap.size, 0, none⟩ : Addr).add j) = some u := fun j u hj => by
  match j, hj with
  | 0, hj => simp at hj; subst hj; simp [Addr.add]

set_option maxRecDepth 100000 in
set_option maxHeartbeats 4000000 in
theorem rtick_rest (ρ : RBlk) (σ : Snd) (w : World) (h : RSndAt w ρ σ) (ho : σ.Ok) (hnd : ρ.all.Nodup) (hn : σ.now ≤ 999999) (hf : baseL σ.l ≠ σ.l.length) (hlo : σ.lost = false) : Calls Try.prog 32 #[ptr ρ.b] w (RTickPost ρ σ w) := by
  obtain ⟨i0, hi, hz0, hz1, hz2⟩ := info_parts Try.info3
  generalize hσ1 : ({ σ with now := σ.now + 1 } : Snd) = σ1
  generalize hds : dueL σ.l σ.tr σ.at_ (σ.now + 1) = ds
  have hds1 : dueL σ1.l σ1.tr σ1.at_ σ1.now = ds := by rw [← hσ1]; exact hds
  have ho1 : σ1.Ok := by rw [← hσ1]; exact nowOk1 σ ho hn
  have c2 := h.c2
  have c3 := h.c3
  have c6 := h.c6
  have c7 := h.c7
  rw [hlo] at c7
  have f6 := h.free 6
  have hcap := h.cap
  have hn2 := ho.n2
  have hnow := ho.nowOk
  have hll := ho.ll
  have hbl := baseL_le σ.l
  have ht : ((baseL σ.l : Int) == (σ.c.length : Int)) = false := by have := ho.ll; simp; omega
  have hbb : baseL σ1.l = baseL σ.l := by rw [← hσ1]
  have hcc : σ1.c.length = σ.c.length := by rw [← hσ1]
  have hl1 : σ1.l.length = σ.l.length := by rw [← hσ1]
  have HS := Lib.hid h
  have HS2 := Lib.hid (hσ1 ▸ h.setNow hnd (σ.now + 1))
  have HK2 := Lib.hid (keeps_store w ρ.b 6 (.int .i64 (σ.now + 1)))
  have HB := Lib.hid (rbase_any _ _ _ w h.bools)
  have HF := Lib.hid hf
  have HO := Lib.hid ho1
  have HND := Lib.hid hnd
  have HD := Lib.hid hds
  have HD1 := Lib.hid hds1
  have HLO := Lib.hid hlo
  have Hσ1 := Lib.hid hσ1
  have HBB := Lib.hid hbb
  have HCC := Lib.hid hcc
  have HL1 := Lib.hid hl1
  have HAL0 := Lib.hid (fun g hg => h.all_lt ho g hg)
  clear hf h ho hlo hds hds1 ho1 hnd hσ1 hbb hcc hl1
  generalize hbs : baseL σ.l = bs at *
  generalize hW0 : w.heap.size = W0
  have HAL := Lib.hid (show ∀ g ∈ ρ.all, g < W0 from by rw [← hW0]; exact HAL0.out)
  have HW0 := Lib.hid hW0; clear hW0
  go_enter Try.func32, Try.ntmps32
  go_upto_block 0 with (first | (go_at_call 16; refine (HB.out).mono ?_; rintro e w' ⟨rfl, rfl⟩))
  go_cut [5] (fun v wx => wx.ownsRow W0 3 1 v ds.length (ds.map (Value.int .i64)) ∧ RSndAt wx ρ σ1 ∧ Keeps [ρ.b] w wx)
  case first =>
    go_wp2_with fail
    go_loopw [5, 6] (fun v c wr => ∃ k : Nat, bs ≤ k ∧ k ≤ σ.c.length ∧ (k : Int) ≤ (bs : Int) + 8 ∧ c = .int .i64 k ∧ wr.ownsRow W0 3 1 v (dueTo σ1.l σ1.tr σ1.at_ σ1.now k).length ((dueTo σ1.l σ1.tr σ1.at_ σ1.now k).map (Value.int .i64)) ∧ RSndAt wr ρ σ1 ∧ Keeps [ρ.b] w wr) (fun _ c _ => σ.c.length - (intOf c).toNat)
    case atStart =>
      have e : dueTo σ1.l σ1.tr σ1.at_ σ1.now bs = [] := by have := dueTo_low σ1.l σ1.tr σ1.at_ σ1.now; rw [HBB.out] at this; exact this
      exact ⟨bs, by omega, by omega, by omega, rfl, by rw [e]; exact World.ownsRow_nil _ _ _ _, HS2.out, HK2.out⟩
    case round =>
      obtain ⟨k, hk1, hk2, hk3, rfl, hown, hS, hK⟩ := hrel
      have f2 := hS.c2
      have f3 := hS.c3
      have f4 := hS.c4
      have f5 := hS.c5
      have f6 := hS.c6
      rw [HCC.out] at f2 f4 f5
      have hWr : W0 ≤ wr.heap.size := by rw [← HW0.out]; exact hK.size
      have hdl := dueTo_length σ1.l σ1.tr σ1.at_ σ1.now k
      have HSr := Lib.hid hS
      have HKr := Lib.hid hK
      by_cases hlt : k < σ.c.length ∧ (k : Int) < (bs : Int) + 8
      · obtain ⟨hlt, hlt8⟩ := hlt
        have g1 := hS.bools.cell k (by rw [HL1.out]; omega)
        have g2 := hS.tr.cell k (by rw [HO.out.lt, HCC.out]; omega)
        have g3 := hS.at_.cell k (by rw [HO.out.la, HCC.out]; omega)
        have hsucc := dueTo_succ σ1.l σ1.tr σ1.at_ σ1.now k
        have r1 := HO.out.trOk k
        have r2 := HO.out.atOk k
        have r3 := HO.out.nowOk
        have hbll : σ1.l.length = σ.c.length := by rw [HL1.out]; exact hll
        rw [HBB.out] at hsucc
        have ek : keepS σ1.tr σ1.at_ σ1.now (k : Int) = !(decide (0 < σ1.tr.getD k 0) && decide (σ1.now - σ1.at_.getD k 0 < 4)) := by unfold keepS; rw [Int.toNat_natCast]
        rw [ek] at hsucc
        clear ek hS hK
        cases hq : at' σ1.l k with
        | true =>
          rw [hq] at g1 hsucc
          rw [if_neg (by simp), List.append_nil] at hsucc
          have HNo := Lib.hid hsucc
          have HOr := Lib.hid hown
          clear hsucc hown hq hdl
          generalize σ1.tr.getD k 0 = x at *
          generalize σ1.at_.getD k 0 = y at *
          go_wp2_with fail
          go_quiet (fail)
          go_wp2_with fail
          have hS2 := Lib.hid (HSr.out.quiet (Keeps.of_drewN wr nq))
          have hK2 := Lib.hid (HKr.out.drewN nq)
          have hO2 := Lib.hid (show (wr.drewN nq).ownsRow W0 3 1 u5 (dueTo σ1.l σ1.tr σ1.at_ σ1.now k).length ((dueTo σ1.l σ1.tr σ1.at_ σ1.now k).map (Value.int .i64)) from HOr.out)
          go_roundw
          case rel => exact ⟨k + 1, by omega, by omega, by omega, by go_num, by rw [HNo.out]; exact hO2.out, hS2.out, hK2.out⟩
          case measure => simp [intOf]; omega
        | false =>
          rw [hq] at g1 hsucc
          clear hq
          by_cases hx : σ1.tr.getD k 0 = 0
          · have hd0 : decide (0 < σ1.tr.getD k 0) = false := by rw [hx]; rfl
            rw [hd0, if_pos ⟨by omega, hlt8, rfl, rfl⟩] at hsucc
            rw [hx] at g2
            clear hd0 hx r1
            generalize dueTo σ1.l σ1.tr σ1.at_ σ1.now k = xs at *
            generalize σ1.at_.getD k 0 = y at *
            have HYes := Lib.hid hsucc
            have hxl : xs.length ≤ 256 := by omega
            have H3 := Lib.hid (show xs.length + 1 ≤ maxLen from by unfold maxLen; omega)
            have H4 := Lib.hid (show (xs.length + 1) * 8 ≤ 140737488355328 from by omega)
            have HOne := Lib.hid (show ∀ u ∈ [Value.int .i64 (k : Int)], u.oneCell' = true from fun u hu => by simp at hu; subst hu; rfl)
            have HOr := Lib.hid hown
            clear hsucc hown hdl
            go_wp2_with fail
            go_quiet (fail)
            have hS2 := Lib.hid (HSr.out.quiet (Keeps.of_drewN wr nq))
            have hK2 := Lib.hid (HKr.out.drewN nq)
            have hO2 := Lib.hid (show (wr.drewN nq).ownsRow W0 3 1 u5 xs.length (xs.map (Value.int .i64)) from HOr.out)
            have hsz8 : W0 ≤ (wr.drewN nq).heap.size := hWr
            clear f2 f3 f4 f5 f6 g1 g2 g3
            generalize wr.drewN nq = w8 at *
            have HC := Lib.hid (news_one w8 k)
            have H5 := Lib.hid (show W0 ≤ (w8.alloc (.cells #[.int .i64 (k : Int)] 3)).heap.size from by simp; omega)
            go_wp2_with (first | (at_builtin; refine wpList_append_own _ rfl _ _ 40 rfl W0 3 i0 (.int .i64 0) 1 8 Try.underlying40 hi hz0 hz1 hz2 rfl (by decide) _ _ _ rfl (hO2.out.alloc _) ⟨w8.heap.size, 0, none⟩ 1 1 [.int .i64 k] rfl rfl HC.out HOne.out H3.out H4.out H5.out ?_; intro v' w1 hown' hgrow _; have hown' := Lib.hid hown'; have hgrow := Lib.hid hgrow))
            have hne : ∀ g, u5.ownBlock = some g → W0 ≤ g := fun g hg => (hO2.out.lt g hg).1
            have hkg : Keeps u5.ownBlock.toList w8 w1 := ((Keeps.refl _ w8).alloc _).grown hgrow.out (fun j hj => Or.inl (by have hj2 : u5.ownBlock = some j := hj; rw [hj2]; simp))
            have K1 := Lib.hid (hK2.out.then hkg (fun g hg => Or.inr (by rw [HW0.out]; exact hne g (by simpa using hg))))
            have S1 := Lib.hid (hS2.out.keeps hkg (fun g hg hm => by have h1 := hne g (by simpa using hm); have h2 := HAL.out g hg; omega))
            have hR := Lib.hid (show w1.ownsRow W0 3 1 v' (dueTo σ1.l σ1.tr σ1.at_ σ1.now (k + 1)).length ((dueTo σ1.l σ1.tr σ1.at_ σ1.now (k + 1)).map (Value.int .i64)) from by rw [HYes.out, List.length_append, List.map_append]; exact hown'.out)
            clear hkg hne
            go_roundw
            case rel => exact ⟨k + 1, by omega, by omega, by omega, by go_num, hR.out, S1.out, K1.out⟩
            case measure => simp [intOf]; omega
          · have hd0 : decide (0 < σ1.tr.getD k 0) = true := decide_eq_true (by omega)
            have hb0 : (σ1.tr.getD k 0 == 0) = false := beq_eq_false_iff_ne.2 hx
            by_cases hy : 4 ≤ σ1.now - σ1.at_.getD k 0
            · have hd1 : decide (σ1.now - σ1.at_.getD k 0 < 4) = false := decide_eq_false (by omega)
              have hd2 : decide (4 ≤ σ1.now - σ1.at_.getD k 0) = true := decide_eq_true hy
              rw [hd0, hd1, if_pos ⟨by omega, hlt8, rfl, rfl⟩] at hsucc
              clear hd0 hd1 hx hy
              generalize dueTo σ1.l σ1.tr σ1.at_ σ1.now k = xs at *
              generalize σ1.tr.getD k 0 = x at *
              generalize σ1.at_.getD k 0 = y at *
              have HYes := Lib.hid hsucc
              have hxl : xs.length ≤ 256 := by omega
              have H3 := Lib.hid (show xs.length + 1 ≤ maxLen from by unfold maxLen; omega)
              have H4 := Lib.hid (show (xs.length + 1) * 8 ≤ 140737488355328 from by omega)
              have HOne := Lib.hid (show ∀ u ∈ [Value.int .i64 (k : Int)], u.oneCell' = true from fun u hu => by simp at hu; subst hu; rfl)
              have HOr := Lib.hid hown
              clear hsucc hown hdl
              go_wp2_with fail
              go_quiet (fail)
              have hS2 := Lib.hid (HSr.out.quiet (Keeps.of_drewN wr nq))
              have hK2 := Lib.hid (HKr.out.drewN nq)
              have hO2 := Lib.hid (show (wr.drewN nq).ownsRow W0 3 1 u5 xs.length (xs.map (Value.int .i64)) from HOr.out)
              have hsz8 : W0 ≤ (wr.drewN nq).heap.size := hWr
              clear f2 f3 f4 f5 f6 g1 g2 g3
              generalize wr.drewN nq = w8 at *
              have HC := Lib.hid (news_one w8 k)
              have H5 := Lib.hid (show W0 ≤ (w8.alloc (.cells #[.int .i64 (k : Int)] 3)).heap.size from by simp; omega)
              go_wp2_with (first | (at_builtin; refine wpList_append_own _ rfl _ _ 40 rfl W0 3 i0 (.int .i64 0) 1 8 Try.underlying40 hi hz0 hz1 hz2 rfl (by decide) _ _ _ rfl (hO2.out.alloc _) ⟨w8.heap.size, 0, none⟩ 1 1 [.int .i64 k] rfl rfl HC.out HOne.out H3.out H4.out H5.out ?_; intro v' w1 hown' hgrow _; have hown' := Lib.hid hown'; have hgrow := Lib.hid hgrow))
              have hne : ∀ g, u5.ownBlock = some g → W0 ≤ g := fun g hg => (hO2.out.lt g hg).1
              have hkg : Keeps u5.ownBlock.toList w8 w1 := ((Keeps.refl _ w8).alloc _).grown hgrow.out (fun j hj => Or.inl (by have hj2 : u5.ownBlock = some j := hj; rw [hj2]; simp))
              have K1 := Lib.hid (hK2.out.then hkg (fun g hg => Or.inr (by rw [HW0.out]; exact hne g (by simpa using hg))))
              have S1 := Lib.hid (hS2.out.keeps hkg (fun g hg hm => by have h1 := hne g (by simpa using hm); have h2 := HAL.out g hg; omega))
              have hR := Lib.hid (show w1.ownsRow W0 3 1 v' (dueTo σ1.l σ1.tr σ1.at_ σ1.now (k + 1)).length ((dueTo σ1.l σ1.tr σ1.at_ σ1.now (k + 1)).map (Value.int .i64)) from by rw [HYes.out, List.length_append, List.map_append]; exact hown'.out)
              clear hkg hne
              go_roundw
              case rel => exact ⟨k + 1, by omega, by omega, by omega, by go_num, hR.out, S1.out, K1.out⟩
              case measure => simp [intOf]; omega
            · have hd1 : decide (σ1.now - σ1.at_.getD k 0 < 4) = true := decide_eq_true (by omega)
              have hd2 : decide (4 ≤ σ1.now - σ1.at_.getD k 0) = false := decide_eq_false hy
              rw [hd0, hd1, if_neg (by simp), List.append_nil] at hsucc
              have HNo := Lib.hid hsucc
              have HOr := Lib.hid hown
              clear hsucc hown hdl hd0 hd1 hx hy
              generalize σ1.tr.getD k 0 = x at *
              generalize σ1.at_.getD k 0 = y at *
              go_wp2_with fail
              go_quiet (fail)
              go_wp2_with fail
              have hS2 := Lib.hid (HSr.out.quiet (Keeps.of_drewN wr nq))
              have hK2 := Lib.hid (HKr.out.drewN nq)
              have hO2 := Lib.hid (show (wr.drewN nq).ownsRow W0 3 1 u5 (dueTo σ1.l σ1.tr σ1.at_ σ1.now k).length ((dueTo σ1.l σ1.tr σ1.at_ σ1.now k).map (Value.int .i64)) from HOr.out)
              go_roundw
              case rel => exact ⟨k + 1, by omega, by omega, by omega, by go_num, by rw [HNo.out]; exact hO2.out, hS2.out, hK2.out⟩
              case measure => simp [intOf]; omega
      · have hfin : dueTo σ1.l σ1.tr σ1.at_ σ1.now k = ds := by
          rw [← HD1.out]
          rcases Nat.lt_or_ge k σ.c.length with h | h
          · exact dueTo_high _ _ _ _ k (by rw [HBB.out]; omega) (by rw [HL1.out]; omega)
          · have : k = σ1.l.length := by rw [HL1.out]; omega
            rw [this]; exact dueTo_whole _ _ _ _
        rw [hfin] at hown
        have HOr := Lib.hid hown
        clear hfin hown hdl hS hK
        rcases Int.lt_or_le (k : Int) ((bs : Int) + 8) with h8 | h8
        · go_wp2_with fail
          go_meet
          exact ⟨HOr.out, HSr.out, HKr.out⟩
        · go_wp2_with fail
          go_meet
          exact ⟨HOr.out, HSr.out, HKr.out⟩
  case rest =>
    obtain ⟨hown, hS, hK⟩ := hcut
    have HSc := Lib.hid hS
    have HKc := Lib.hid hK
    have HOc := Lib.hid hown
    have hf0 : baseL σ.l ≠ σ.l.length := by rw [hbs]; exact HF.out
    have hlost : ∀ (e : Ending) (w' : World) (v : Value), lostB σ.tr ds = true → e = .returned (.tuple #[.slice none 0 0, .int .i64 16]) → RSndAt w' ρ { σ1 with lost := true } → Keeps ρ.foot w w' → RTickPost ρ σ w e w' := fun e w' v hl he hr hk => by
      unfold RTickPost
      rw [tick_lost_eq σ hf0 HLO.out (by rw [HD.out]; exact hl)]
      exact ⟨_, he, World.ownsRow_nil _ _ _ _, by rw [← Hσ1.out] at hr; exact hr, hk⟩
    have hsent : ∀ (e : Ending) (w' : World) (v : Value), lostB σ.tr ds = false → e = .returned (.tuple #[v, .int .i64 0]) → w'.ownsRow W0 54 6 v ds.length (framesV σ1 ds) → RSndAt w' ρ (midS σ1 ds ds.length) → Keeps ρ.foot w w' → RTickPost ρ σ w e w' := fun e w' v hl he ho hr hk => by
      unfold RTickPost
      have hT := tick_sent_eq σ hf0 HLO.out (by rw [HD.out]; exact hl)
      rw [HD.out, Hσ1.out] at hT
      rw [hT]
      have hfs : framesV σ ds = framesV σ1 ds := by rw [← Hσ1.out]; rfl
      exact ⟨v, he, by dsimp only; rw [hfs, HW0.out]; exact ho, hr, hk⟩
    have HLost := Lib.hid hlost
    have HSent := Lib.hid hsent
    clear hlost hsent hf0 hS hK hown
    have hbf : ∀ x ∈ [ρ.b], x ∈ ρ.foot := by intro x hx; unfold RBlk.foot; simp at hx ⊢; exact Or.inl hx
    have HBF := Lib.hid hbf; clear hbf
    have hzero : midS σ1 ds 0 = σ1 := by unfold midS trF atF; simp
    have HZ := Lib.hid hzero; clear hzero
    have hdl : ds.length ≤ 256 := by have := dueL_length σ1.l σ1.tr σ1.at_ σ1.now; rw [HD1.out, HL1.out] at this; omega
    have HDM := Lib.hid (show ∀ x ∈ ds, ∃ i : Nat, x = i ∧ i < σ.c.length from fun x hx => by rw [← HD1.out] at hx; obtain ⟨i, rfl, hi⟩ := dueL_mem _ _ _ _ x hx; exact ⟨i, rfl, by rw [HL1.out] at hi; omega⟩)
    have HDN := Lib.hid (show ds.Nodup from by rw [← HD1.out]; exact dueL_nodup _ _ _ _)
    have htr : σ1.tr = σ.tr := by rw [← Hσ1.out]
    have HTR := Lib.hid htr; clear htr
    clear c2 c3 c6 c7 f6 ht hbs
    rcases HOc.out.2 with ⟨hv, hnil⟩ | ⟨gd, cd, cur, hv, hgB, hgh, hl1, hl2, _⟩
    · have hnil' : ds = [] := List.length_eq_zero_iff.1 hnil
      subst hnil'
      subst hv
      go_wp2_with fail
      refine wp_loop_rounds 1 ?_
      rw [rounds_succ]
      go_wp2_with fail
      refine wp_loop_rounds 1 ?_
      rw [rounds_succ]
      go_wp2_with fail
      go_ret2
      exact HSent.out _ _ _ rfl rfl (World.ownsRow_nil _ _ _ _) (by rw [show ([] : List Int).length = 0 from rfl, HZ.out]; exact HSc.out) (HKc.out.mono HBF.out)
    · subst hv
      have HI := Lib.hid (show IntsAt wc gd cd ds from owns_mono HOc.out (Nat.zero_le _))
      unfold maxLen at hl2
      clear hgh HOc
      have hW0c : W0 ≤ wc.heap.size := by rw [← HW0.out]; exact HKc.out.size
      have hgdl := HI.out.lt
      go_wp2_with fail
      go_loopw [7] (fun c wr => ∃ k : Nat, k ≤ ds.length ∧ c = .int .i64 k ∧ (∀ j, j < k → σ1.tr.getD (ds.getD j 0).toNat 0 < 8) ∧ Keeps [] wc wr) (fun c _ => ds.length - (intOf c).toNat)
      case atStart => exact ⟨0, Nat.zero_le _, rfl, fun j hj => by omega, Keeps.refl _ _⟩
      case round =>
        obtain ⟨k, hk, rfl, h8, hKr⟩ := hrel
        have H8 := Lib.hid h8
        have HKr := Lib.hid hKr
        by_cases hlt : k < ds.length
        · obtain ⟨i, hi2, hin⟩ := HDM.out (ds.getD k 0) (getD_mem ds k hlt)
          have hS := HSc.out.quiet hKr
          have g1 := (HI.out.keeps hKr (by simp)).cell k hlt
          rw [hi2] at g1
          have f4 := hS.c4
          rw [HCC.out] at f4
          have g2 := hS.tr.cell i (by rw [HO.out.lt, HCC.out]; exact hin)
          have r1 := HO.out.trOk i
          have hin0 : (0 : Int) ≤ (i : Int) := Int.natCast_nonneg _
          have hin1 : (i : Int) < (σ.c.length : Int) := by omega
          have HS3 := Lib.hid hS
          clear hS h8 hKr
          generalize hx : σ1.tr.getD i 0 = x at *
          have HX := Lib.hid hx; clear hx
          by_cases hx8 : x = 8
          · have hb : (x == 8) = true := by simpa using hx8
            have HLB := Lib.hid (show lostB σ.tr ds = true from by
              unfold lostB
              exact List.any_eq_true.2 ⟨ds.getD k 0, getD_mem ds k hlt, by rw [hi2, Int.toNat_natCast, ← HTR.out, HX.out, hx8]; decide⟩)
            go_wp2_with fail
            go_quiet (fail)
            have hS5 := HS3.out.quiet (Keeps.of_drewN wr nq)
            have f7 := hS5.free 7
            have c7 := hS5.c7
            have HS5 := Lib.hid hS5
            have HK5 := Lib.hid (HKr.out.drewN nq)
            clear hS5
            go_wp2_with fail
            go_ret2
            exact HLost.out _ _ (.bool true) HLB.out rfl (HS5.out.setLost HND.out true) (((HKc.out.trans (HK5.out.mono (by simp))).trans (keeps_store _ ρ.b 7 _)).mono HBF.out)
          · have hb : (x == 8) = false := by simpa using hx8
            go_wp2_with fail
            go_quiet (fail)
            go_wp2_with fail
            have HK5 := Lib.hid (HKr.out.drewN nq)
            go_roundw
            case rel => exact ⟨k + 1, by omega, by go_num, fun j hj => by
              rcases Nat.lt_or_ge j k with h | h
              · exact H8.out j h
              · obtain rfl : j = k := by omega
                rw [hi2, Int.toNat_natCast, HX.out]; omega, HK5.out⟩
            case measure => simp [intOf]; omega
        · obtain rfl : k = ds.length := by omega
          have H8s := Lib.hid (show ∀ d ∈ ds, σ1.tr.getD d.toNat 0 < 8 from fun d hd => by
            obtain ⟨j, hj, rfl⟩ := List.mem_iff_getElem.1 hd
            have := H8.out j hj
            have e : ds.getD j 0 = ds[j] := by rw [List.getD_eq_getElem?_getD, List.getElem?_eq_getElem hj]; rfl
            rw [e] at this; exact this)
          have HLB := Lib.hid (show lostB σ.tr ds = false from by
            cases e : lostB σ.tr ds with
            | false => rfl
            | true =>
              unfold lostB at e
              obtain ⟨d, hd, h8'⟩ := List.any_eq_true.1 e
              have := H8s.out d hd
              rw [HTR.out] at this
              have h8'' : 8 ≤ σ.tr.getD d.toNat 0 := by simpa using h8'
              omega)
          have HSr := Lib.hid (HSc.out.quiet HKr.out)
          have HIr := Lib.hid (HI.out.keeps HKr.out (by simp))
          have HKw := Lib.hid (HKc.out.trans (HKr.out.mono (T := [ρ.b]) (by simp)))
          have hWr : W0 ≤ wr.heap.size := Nat.le_trans hW0c HKr.out.size
          have hgr : gd < wr.heap.size := HIr.out.lt
          clear h8 hKr H8 HKr HI HSc HKc HB HS HS2 HK2 HLost hlt
          generalize wr = w5 at *
          obtain ⟨j0, hj0, hjz0, hjz1, hjz2⟩ := info_parts Try.info54
          have HFT := Lib.hid (show ∀ g ∈ ρ.foot, g < W0 from fun g hg => HAL.out g (by unfold RBlk.foot at hg; unfold RBlk.all; simp at hg ⊢; omega))
          go_wp2_with fail
          go_loopw [8, 9] (fun v c wr => ∃ k : Nat, k ≤ ds.length ∧ c = .int .i64 k ∧ wr.ownsRow w5.heap.size 54 6 v k (framesV σ1 (ds.take k)) ∧ RSndAt wr ρ (midS σ1 ds k) ∧ Keeps ρ.foot w5 wr) (fun _ c _ => ds.length - (intOf c).toNat)
          case atStart => exact ⟨0, Nat.zero_le _, rfl, World.ownsRow_nil _ _ _ _, by rw [HZ.out]; exact HSr.out, Keeps.refl _ _⟩
          case round =>
            obtain ⟨k, hk, rfl, hown, hS, hK⟩ := hrel
            by_cases hlt : k < ds.length
            · obtain ⟨i, hi2, hin⟩ := HDM.out (ds.getD k 0) (getD_mem ds k hlt)
              have hgdf : gd ∉ ρ.foot := fun hm => by have := HFT.out gd hm; omega
              have hcell := (HIr.out.keeps hK hgdf).cell k hlt
              rw [hi2] at hcell
              have hx : (midS σ1 ds k).tr.getD i 0 < 8 ∧ 0 ≤ (midS σ1 ds k).tr.getD i 0 := by
                rcases mid_fresh σ1 ds k i hlt hi2 HDN.out (fun d hd => by obtain ⟨j, rfl, _⟩ := HDM.out d hd; omega) H8s.out with h | h
                · exact h
                · exact absurd (fun j => (HO.out.trOk j).1) h
              have hsucc := midS_succ σ1 ds k i hlt hi2
              have hfr : frameV σ1 i = frameV (midS σ1 ds k) i := rfl
              have hnow1 := HO.out.nowOk
              have hMn : (midS σ1 ds k).now = σ1.now := rfl
              have hMc : (midS σ1 ds k).c.length = σ.c.length := HCC.out
              have hMt : (midS σ1 ds k).tr.length = σ.c.length := by unfold midS; dsimp only; rw [trF_length, HO.out.lt, HCC.out]
              have hMa : (midS σ1 ds k).at_.length = σ.c.length := by unfold midS; dsimp only; rw [atF_length, HO.out.la, HCC.out]
              have hframes : framesV σ1 (ds.take (k + 1)) = framesV σ1 (ds.take k) ++ frameV (midS σ1 ds k) i := by rw [take_succ_get ds k hlt, framesV_snoc, hi2, hfr]
              have HFr := Lib.hid hframes
              have HSucc := Lib.hid hsucc
              clear hframes hsucc hfr hgdf
              generalize midS σ1 ds k = M at *
              generalize framesV σ1 (ds.take k) = fs at *
              have c4 := hS.c4
              have ct := hS.tr.cell i (by omega)
              have ft := hS.tr.free i
              have hAS := hS.setTr HND.out i (M.tr.getD i 0 + 1)
              have c5 := hAS.c5
              have c6 := hAS.c6
              have fa := hAS.at_.free i
              have hBS := Lib.hid (hAS.setAt HND.out i M.now)
              dsimp only at c5 c6
              have ca := hAS.at_.cell i (by dsimp only; omega)
              have hiM : i < M.c.length := by omega
              have hnM : M.c.length ≤ 256 := by omega
              have hnow0 : 0 ≤ M.now ∧ M.now ≤ 1000000 := by rw [hMn]; exact hnow1
              have hltu : ∀ g, u8.ownBlock = some g → w5.heap.size ≤ g := fun g hg => (hown.lt g hg).1
              have hKw : Keeps ρ.foot w5 ((wr.setCell ⟨ρ.gt, i, none⟩ (.int .i64 (M.tr.getD i 0 + 1))).setCell ⟨ρ.ga, i, none⟩ (.int .i64 M.now)) :=
                (hK.setCell (p := ⟨ρ.gt, i, none⟩) (Or.inl (by unfold RBlk.foot; simp)) _).setCell (p := ⟨ρ.ga, i, none⟩) (Or.inl (by unfold RBlk.foot; simp)) _
              have hKo : Keeps ρ.foot wr ((wr.setCell ⟨ρ.gt, i, none⟩ (.int .i64 (M.tr.getD i 0 + 1))).setCell ⟨ρ.ga, i, none⟩ (.int .i64 M.now)) :=
                ((Keeps.refl ρ.foot wr).setCell (p := ⟨ρ.gt, i, none⟩) (Or.inl (by unfold RBlk.foot; simp)) _).setCell (p := ⟨ρ.ga, i, none⟩) (Or.inl (by unfold RBlk.foot; simp)) _
              have hownW := hKo.owns hown (fun g hg hm => by have h1 := hltu g hg; have h2 := HFT.out g hm; omega)
              have HKW := Lib.hid hKw
              have HOW := Lib.hid hownW
              have HLU := Lib.hid hltu
              clear hown hK hAS hS hKw hKo hownW hltu hMn hMc hMt hMa
              generalize hX : M.tr.getD i 0 = x at *
              have HX := Lib.hid hX; clear hX
              go_wp2_with fail
              go_region
              go_wp2_with fail
              have hS8 : RSndAt (((wr.setCell ⟨ρ.gt, i, none⟩ (.int .i64 (x + 1))).setCell ⟨ρ.ga, i, none⟩ (.int .i64 M.now)).drew) ρ { M with tr := M.tr.set i (x + 1), at_ := M.at_.set i M.now } := hBS.out.quiet ((Keeps.refl [] _).drew)
              have hK8 := HKW.out.drew
              have hO8 : (((wr.setCell ⟨ρ.gt, i, none⟩ (.int .i64 (x + 1))).setCell ⟨ρ.ga, i, none⟩ (.int .i64 M.now)).drew).ownsRow w5.heap.size 54 6 u8 k fs := HOW.out
              have hS8 := Lib.hid hS8
              have hK8 := Lib.hid hK8
              have hO8 := Lib.hid hO8
              rename_i hS80 hK80 hO80
              clear hS80 hK80 hO80 HKW HOW hBS ca fa c6 c5
              generalize (((wr.setCell ⟨ρ.gt, i, none⟩ (.int .i64 (x + 1))).setCell ⟨ρ.ga, i, none⟩ (.int .i64 M.now)).drew) = w8 at *
              have g1 := hS8.out.c0
              have g2 := hS8.out.c1
              have g3 := hS8.out.c2
              have gs := hS8.out.cStr i hiM
              dsimp only at g1 g2 g3 gs
              have hsz8 := hK8.out.size
              generalize hst : M.c.getD i ByteArray.empty = st at *
              have HST := Lib.hid hst; clear hst
              have hcellsA : ∀ w', Keeps [] w8 w' → (w'.cell? ⟨ρ.b, 0, none⟩ = some (.int .i64 M.ses) ∧ w'.cell? ⟨ρ.b, 1, none⟩ = some (.int .i64 M.epo) ∧ w'.cell? ⟨ρ.b, 2, none⟩ = some (.slice (some ⟨ρ.gx, ρ.ox, none⟩) M.c.length ρ.cx) ∧ w'.cell? ⟨ρ.gx, ρ.ox + i, none⟩ = some (.string st)) :=
                fun w' hk => ⟨hk.cell (by simp) g1, hk.cell (by simp) g2, hk.cell (by simp) g3, hk.cell (by simp) gs⟩
              have hcellsG : ∀ w' : World, (w8.alloc (.cells #[.int .i64 1, .int .i64 M.ses, .int .i64 M.epo, .int .i64 i, .int .i64 M.c.length, .string st] 54)).drew.grownBy w' u8.ownBlock → (w'.cell? ⟨ρ.b, 0, none⟩ = some (.int .i64 M.ses) ∧ w'.cell? ⟨ρ.b, 1, none⟩ = some (.int .i64 M.epo) ∧ w'.cell? ⟨ρ.b, 2, none⟩ = some (.slice (some ⟨ρ.gx, ρ.ox, none⟩) M.c.length ρ.cx) ∧ w'.cell? ⟨ρ.gx, ρ.ox + i, none⟩ = some (.string st)) ∧ Keeps u8.ownBlock.toList w8 w' := fun w' hg => by
                have hk : Keeps u8.ownBlock.toList w8 w' := ((Keeps.refl _ w8).alloc _).drew.grown hg (fun j hj => Or.inl (by rw [hj]; simp))
                have hn : ∀ g, g < w5.heap.size → g ∉ u8.ownBlock.toList := fun g hg hm => by
                  have := HLU.out g (by simpa using hm); omega
                have hb5 : ∀ g ∈ ρ.all, g < w5.heap.size := fun g hg => by have := HAL.out g hg; omega
                have hbb := hb5 ρ.b (by unfold RBlk.all; simp)
                have hbc := hb5 ρ.gx (by unfold RBlk.all; simp)
                exact ⟨⟨hk.cell (hn _ hbb) g1, hk.cell (hn _ hbb) g2, hk.cell (hn _ hbb) g3, hk.cell (hn _ hbc) gs⟩, hk⟩
              have HCA := Lib.hid (hcellsA _ ((Keeps.refl [] w8).alloc (.cells #[.int .i64 1, .int .i64 M.ses, .int .i64 M.epo, .int .i64 i, .int .i64 M.c.length, .string st] 54)))
              have HC0 := Lib.hid (hcellsA _ (Keeps.refl [] w8))
              have HCG := Lib.hid hcellsG
              have H63 := Lib.hid (show k + 1 ≤ maxLen from by unfold maxLen; omega)
              have HBY := Lib.hid (show (k + 1) * 56 ≤ 140737488355328 from by omega)
              have HBase := Lib.hid (show w5.heap.size ≤ (w8.alloc (.cells #[.int .i64 1, .int .i64 M.ses, .int .i64 M.epo, .int .i64 i, .int .i64 M.c.length, .string st] 54)).drew.heap.size from by simp [World.drew]; omega)
              have HNews := Lib.hid (World.news_of_block (w := (w8.alloc (.cells #[.int .i64 1, .int .i64 M.ses, .int .i64 M.epo, .int .i64 i, .int .i64 M.c.length, .string st] 54)).drew) (B := w8.heap.size) (cs := #[.int .i64 1, .int .i64 M.ses, .int .i64 M.epo, .int .i64 i, .int .i64 M.c.length, .string st]) (t := 54) (fr := (0, 0)) (heap_alloc_new w8 _))
              have HOneC := Lib.hid (show ∀ u ∈ [Value.int .i64 1, .int .i64 M.ses, .int .i64 M.epo, .int .i64 i, .int .i64 M.c.length, .string st], u.oneCell' = true from by simp [Value.oneCell'])
              have HOA := Lib.hid (show ((w8.alloc (.cells #[.int .i64 1, .int .i64 M.ses, .int .i64 M.epo, .int .i64 i, .int .i64 M.c.length, .string st] 54)).drew).ownsRow w5.heap.size 54 6 u8 k fs from hO8.out.alloc _)
              clear hcellsA hcellsG
              go_region_held3 (fun w' => w'.cell? ⟨ρ.b, 0, none⟩ = some (.int .i64 M.ses) ∧ w'.cell? ⟨ρ.b, 1, none⟩ = some (.int .i64 M.epo) ∧ w'.cell? ⟨ρ.b, 2, none⟩ = some (.slice (some ⟨ρ.gx, ρ.ox, none⟩) M.c.length ρ.cx) ∧ w'.cell? ⟨ρ.gx, ρ.ox + i, none⟩ = some (.string st))
                (first | exact (HCG.out _ hgrow).1 | exact HCA.out | exact HC0.out)
                ((refine step_append_lies _ (by rfl) _ _ _ (by rfl) w5.heap.size 54 j0 _ 6 56 Try.underlying57 hj0 hjz0 hjz1 hjz2 rfl (by omega) u8 k fs (by rfl) HOA.out ⟨w8.heap.size, 0, none⟩ 1 1 [.int .i64 1, .int .i64 M.ses, .int .i64 M.epo, .int .i64 i, .int .i64 M.c.length, .string st] (by rfl) (by rfl) HNews.out HOneC.out (by omega) H63.out HBY.out HBase.out (w8.heap.size + 1) (by simp [World.drew]) ?_; intro gg cap9 w9 hown9 hgrow hat9 hlt9))
              go_wp2_with fail
              have hkg := (HCG.out _ hgrow).2
              have hnf2 : ∀ g ∈ ρ.all, g ∉ u8.ownBlock.toList := fun g hg hm => by
                have h1 := HLU.out g (by simpa using hm)
                have h2 := HAL.out g hg
                omega
              refine ⟨⟨k + 1, by omega, by go_num, ?_, ?_, ?_⟩, by simp [intOf]; omega⟩
              · have e : frameV M i = [.int .i64 1, .int .i64 M.ses, .int .i64 M.epo, .int .i64 i, .int .i64 M.c.length, .string st] := by unfold frameV; rw [Int.toNat_natCast, HST.out]
                rw [HFr.out, e]; exact hown9
              · rw [HSucc.out]; exact hS8.out.keeps hkg hnf2
              · exact hK8.out.then hkg (fun g hg => Or.inr (HLU.out g (by simpa using hg)))
            · have hkd : k = ds.length := by omega
              subst hkd
              rw [List.take_length] at hown
              have hown := Lib.hid hown
              have hS := Lib.hid hS
              have hK := Lib.hid hK
              rename_i hown0 hS0 hK0
              clear hown0 hS0 hK0
              go_wp2_with fail
              go_ret2
              exact HSent.out _ _ _ HLB.out rfl (owns_mono hown.out hWr) hS.out ((HKw.out.mono HBF.out).trans hK.out)

/-- Tick, of the reference. -/
theorem rtick_any (ρ : RBlk) (σ : Snd) (w : World) (h : RSndAt w ρ σ) (ho : σ.Ok) (hnd : ρ.all.Nodup) (hn : σ.now ≤ 999999) : Calls Try.prog 32 #[ptr ρ.b] w (RTickPost ρ σ w) := by
  by_cases hf : baseL σ.l = σ.l.length
  · exact rtick_full ρ σ w h ho hf
  · cases hlo : σ.lost with
    | true => exact rtick_wasLost ρ σ w h ho hf hlo
    | false => exact rtick_rest ρ σ w h ho hnd hn hf hlo
end Go.Proofs.Ytffcambjdlkfbaa
