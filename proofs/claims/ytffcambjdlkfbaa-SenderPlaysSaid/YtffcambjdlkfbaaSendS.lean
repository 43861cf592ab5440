/- The walk of the law SenderPlays where session, epoch and chunks may be. -/
import Derived.Test.YtffcambjdlkfbaaSendR
import Derived.Deep.CutBlock
namespace Go.Proofs.Ytffcambjdlkfbaa
open Go.RowKit

/-- One call of the list. -/
structure Op13 where
  kind : Int
  fk : Int
  ses : Int
  epo : Int
  idx : Int
  tot : Int
  s : ByteArray

def Op13.cells (x : Op13) : List Value := [.int .i64 x.kind, .int .i64 x.fk, .int .i64 x.ses, .int .i64 x.epo, .int .i64 x.idx, .int .i64 x.tot, .string x.s]

/-- The calls from place o of block g on. -/
def Ops13At (w : World) (g o : Nat) (ops : List Op13) : Prop := ∀ i x, ops[i]? = some x → ∀ j u, x.cells[j]? = some u → w.cell? ⟨g, o + i * 7 + j, none⟩ = some u

/-- What the walk is told of the list: it is empty, or its cells are these. -/
def Is13 (w : World) (a : Option Addr) (ops : List Op13) : Prop := ops = [] ∨ ∃ g o, a = some ⟨g, o, none⟩ ∧ Ops13At w g o ops

theorem few_of {c : List ByteArray} (h : anyOver 1100 c = false) (s : ByteArray) (hs : s ∈ c) : s.size ≤ 1100 := by
  rcases Nat.lt_or_ge 1100 s.size with h2 | h2
  · rw [anyOver_yes hs h2] at h; cases h
  · exact h2

theorem may_small {ses epo : Int} {c : List ByteArray} (h : MayS ses epo c) (s : ByteArray) (hs : s ∈ c) : s.size ≤ 1000 := by
  have h2 : longAny c = false := h.2.2.1
  rcases Nat.lt_or_ge 1000 s.size with h3 | h3
  · have : longAny c = true := anyOver_yes hs h3
    rw [this] at h2; cases h2
  · exact h3

theorem snd0_ok2 (ses epo : Int) (c : List ByteArray) (h1 : 1 ≤ c.length) (h2 : c.length ≤ 256) : (snd0 ses epo c).Ok := by
  have hz : ∀ (n i : Nat), (List.replicate n (0 : Int)).getD i 0 = 0 := fun n i => by
    rw [List.getD_eq_getElem?_getD, List.getElem?_replicate]; split <;> rfl
  refine ⟨h1, h2, by unfold snd0; simp, by unfold snd0; simp, by unfold snd0; simp, fun i => ?_, fun i => ?_, by unfold snd0; simp⟩
  · unfold snd0; dsimp only; rw [hz]; omega
  · unfold snd0; dsimp only; rw [hz]; omega

theorem duo_start {w w3 w4 w5 : World} {β : SBlk} {ρ : RBlk} {ses epo : Int} {c : List ByteArray} (h1 : 1 ≤ c.length) (h2 : c.length ≤ 256) (k3 : Keeps [] w w3) (s4 : SndAt w4 β (snd0 ses epo c)) (nb : β.all.Nodup) (ge4 : ∀ x ∈ β.all, w3.heap.size ≤ x) (k4 : Keeps [] w3 w4)
    (r5 : RSndAt w5 ρ (snd0 ses epo c)) (gx : ρ.gx < w.heap.size) (no : ρ.own.Nodup) (ge5 : ∀ x ∈ ρ.own, w4.heap.size ≤ x) (k5 : Keeps [] w4 w5) : Duo w β ρ (snd0 ses epo c) w5 := by
  have ho := snd0_ok2 ses epo c h1 h2
  have z3 := k3.size
  have z4 := k4.size
  have hsplit : ∀ x ∈ ρ.all, x ∈ ρ.own ∨ x = ρ.gx := fun x hx => by unfold RBlk.all at hx; unfold RBlk.own; simp at hx ⊢; omega
  refine ⟨s4.quiet k5, r5, ho, nb, ?_, fun x hx hm => ?_, fun x hx => by have := ge4 x hx; omega, fun x hx => by have := ge5 x hx; omega, (k3.trans k4).trans k5⟩
  · unfold RBlk.own at no ge5
    unfold RBlk.all
    have q0 := ge5 ρ.b (by simp)
    have q1 := ge5 ρ.gi (by simp)
    have q2 := ge5 ρ.gt (by simp)
    have q3 := ge5 ρ.ga (by simp)
    simp only [List.nodup_cons, List.mem_cons, List.not_mem_nil, not_or, or_false, List.nodup_nil, and_true, not_false_eq_true] at no ⊢
    omega
  · have hb := s4.all_lt ho x hx
    have hg := ge4 x hx
    rcases hsplit x hm with h | h
    · have := ge5 x h; omega
    · omega

section
variable {w0 : World} {β : SBlk} {ρ3 : RBlk} {σ' : Snd} {j : Nat} {X : Int} {Q : Bool} {w' : World} (h : w'.cell? ⟨ρ3.b, 3, none⟩ = some (bslice ρ3.gi ρ3.ci σ'.l) ∧ w'.cell? ⟨ρ3.b, 4, none⟩ = some (sl ρ3.gt σ'.c.length ρ3.ct) ∧ w'.cell? ⟨ρ3.gt, j, none⟩ = some (.int .i64 X) ∧ w'.cell? ⟨ρ3.gi, j, none⟩ = some (.bool Q) ∧ Duo w0 β ρ3 σ' w')
include h
theorem tries26 (hj : (j : Int) < (σ'.c.length : Int)) (hX : σ'.tr.getD j 0 = X) : Calls Try.prog 40 #[ptr β.b, .int .i64 j] w' fun e w'' => e = .returned (.int .i64 X) ∧ w' = w'' := by
  subst hX; exact sTries_any β σ' j w' h.2.2.2.2.s h.2.2.2.2.ok (by omega)
theorem there26 : Calls Try.prog 39 #[ptr β.b] w' fun e w'' => ∃ m, e = .returned (ptr m) ∧ MapAt w'' m σ'.l ∧ (w''.cell? ⟨ρ3.b, 3, none⟩ = some (bslice ρ3.gi ρ3.ci σ'.l) ∧ w''.cell? ⟨ρ3.b, 4, none⟩ = some (sl ρ3.gt σ'.c.length ρ3.ct) ∧ w''.cell? ⟨ρ3.gt, j, none⟩ = some (.int .i64 X) ∧ w''.cell? ⟨ρ3.gi, j, none⟩ = some (.bool Q) ∧ Duo w0 β ρ3 σ' w'') :=
  (sThere_any β σ' w' h.2.2.2.2.s).mono fun _ _ ⟨h1, h2, h3, _⟩ => ⟨_, h1, h2, h3.cell (by simp) h.1, h3.cell (by simp) h.2.1, h3.cell (by simp) h.2.2.1, h3.cell (by simp) h.2.2.2.1, h.2.2.2.2.keeps h3⟩
end

theorem tick_due_len (σ : Snd) (ho : σ.Ok) : (tickS σ).due.length ≤ 1000 := by
  have h1 := dueL_length σ.l σ.tr σ.at_ (σ.now + 1)
  have h2 := ho.ll
  have h3 := ho.n2
  unfold tickS
  split
  · simp
  · split
    · simp
    · dsimp only
      split
      · simp
      · dsimp only; omega

set_option maxRecDepth 100000 in
set_option maxHeartbeats 8000000 in
theorem senderPlays_may (ses epo : Int) (g o cap : Nat) (c : List ByteArray) (a : Option Addr) (cap' : Nat) (ops : List Op13) (w : World) (hmay : MayS ses epo c) (hfew : anyOver 1100 c = false) (hl : ops.length ≤ 200) (hlc : ops.length ≤ cap') (hcm : cap' ≤ 9223372036854775807)
    (hcap : c.length ≤ cap) (hcapm : cap ≤ 9223372036854775807) (hc : StrsAt w g o c) (hops : Is13 w a ops) :
    Calls Try.prog 4 #[.int .i64 ses, .int .i64 epo, .slice (some ⟨g, o, none⟩) c.length cap, .slice a ops.length cap'] w (AwakePost w) := by
  obtain ⟨i0, hi, hz0, hz1, hz2⟩ := info_parts Try.info9
  have hs1 := fun s hs => may_small hmay s hs
  have hm0 := hmay
  obtain ⟨⟨he1, he2⟩, ⟨he3, he4⟩, hlong, hn1, hn2⟩ := hm0
  have HS1 := Lib.hid hs1; clear hs1
  have HLong := Lib.hid hlong; clear hlong
  have HMay := Lib.hid hmay; clear hmay
  have HC := Lib.hid hc; clear hc
  have HOps := Lib.hid hops; clear hops
  have HFew := Lib.hid hfew; clear hfew
  go_enter Try.func4, Try.ntmps4
  go_wp2_with fail
  refine (awake13_true _).mono ?_
  rintro e w1 ⟨rfl, k1⟩
  have k1 := Lib.hid k1
  go_wp2_with fail
  refine (rfew_some g o cap c _ hcap hcapm (HC.out.keeps k1.out (by simp)) (fun s hs => by have := HS1.out s hs; omega)).mono ?_
  rw [HFew.out]
  have hd3 : decide (c.length ≤ 300) = true := decide_eq_true (by omega)
  rw [hd3]
  clear hd3
  rintro e w2 ⟨rfl, rfl⟩
  have HNews := Lib.hid (strs_news (HC.out.keeps (k1.out.alloc (.cells #[] 9)) (by simp)))
  have HOne := Lib.hid (show ∀ u ∈ c.map Value.string, u.oneCell' = true from fun u hu => by obtain ⟨x, _, rfl⟩ := List.mem_map.1 hu; rfl)
  have HMade := Lib.hid (owns_made w1 9)
  have HKa := Lib.hid (k1.out.alloc (.cells #[] 9))
  have H3 := Lib.hid (show 0 + c.length ≤ maxLen from by unfold maxLen; omega)
  have H4 := Lib.hid (show (0 + c.length) * 16 ≤ 140737488355328 from by omega)
  have H5 := Lib.hid (show w1.heap.size ≤ (w1.alloc (.cells #[] 9)).heap.size from by simp)
  have HL1 := Lib.hid (show (c.map Value.string).length = c.length * 1 from by simp)
  go_wp2_with (first | (at_builtin; refine wpList_append_own _ rfl _ _ 44 rfl w1.heap.size 9 i0 (.string ByteArray.empty) 1 16 Try.underlying44 hi hz0 hz1 hz2 rfl (by decide) _ _ _ rfl HMade.out ⟨g, o, none⟩ c.length cap (c.map Value.string) rfl HL1.out HNews.out HOne.out H3.out H4.out H5.out ?_; intro v' w3 hown' hgrow _; have hown' := Lib.hid hown'; have hgrow := Lib.hid hgrow; obtain ⟨g2, cap2, hv, hg2⟩ := owns_some hown'.out (by omega); rw [hv]))
  have hown2 := hown'.out
  rw [hv, List.nil_append, Nat.zero_add] at hown2
  have hblk := owns_block hown2
  unfold maxLen at hblk
  have hK3 : Keeps [] w w3 := HKa.out.grown hgrow.out (fun j hj => Or.inr (by have hj' : some w1.heap.size = some j := hj; cases hj'; exact k1.out.size))
  have HK3 := Lib.hid hK3
  have hnew := sNew_yes ses epo g2 0 cap2 c w3 hn1 hn2 hblk.2.2.1 hblk.2.2.2 (StrsAt.of_owns hown2) (fun s hs => HS1.out s hs) he1 he2 he3 he4
  have HNew := Lib.hid hnew
  clear hnew hown2 hK3 hblk hgrow hown' HL1 H5 H4 H3 HKa HMade HOne HNews hg2
  try rw [Nat.zero_add]
  refine (HNew.out).mono ?_
  rintro e w4 ⟨β, rfl, s4, nb, ge4, k4⟩
  have s4 := Lib.hid s4
  have nb := Lib.hid nb
  have ge4 := Lib.hid ge4
  have k4 := Lib.hid k4
  rename_i s40 nb0 ge40 k40
  clear s40 nb0 ge40 k40
  have hKc4 := Lib.hid (HK3.out.trans k4.out)
  go_wp2_with fail
  refine (rmay_some ses epo g o cap c _ hcap hcapm (HC.out.keeps hKc4.out (by simp)) (fun s hs => by have := HS1.out s hs; omega) true (decide_eq_true HMay.out)).mono ?_
  rintro e w5 ⟨rfl, rfl⟩
  go_wp2_with fail
  refine (rnew_any ses epo g o cap c _ hn2 hcap hcapm (HC.out.keeps hKc4.out (by simp))).mono ?_
  rintro e w5 ⟨ρ, rfl, r5, gx5, no5, ge5, k5⟩
  have hgx : g < w.heap.size := by
    have := HC.out 0 (c[0]'(by omega)) (List.getElem?_eq_getElem (by omega))
    exact World.block_lt_of_cell? w ⟨g, o + 0, none⟩ this
  have hduo := Lib.hid (duo_start hn1 hn2 HK3.out s4.out nb.out ge4.out k4.out r5 (by rw [gx5]; exact hgx) no5 ge5 k5)
  generalize hrb : ρ.b = rb at *
  have HRB := Lib.hid hrb
  have HRc := Lib.hid (show (snd0 ses epo c).c.length = c.length from rfl)
  have HRn := Lib.hid (show (snd0 ses epo c).now = 0 from rfl)
  clear r5 gx5 no5 ge5 k5 hgx s4 nb ge4 k4 hKc4 HNew HK3 hrb
  go_wp2_with fail
  generalize snd0 ses epo c = σ0 at *
  go_loopw [64] (fun v wr => ∃ k : Nat, k ≤ ops.length ∧ v = .int .i64 k ∧ ∃ (σ : Snd) (ρ2 : RBlk), ρ2.b = rb ∧ Duo w β ρ2 σ wr ∧ σ.c.length = c.length ∧ σ.now ≤ (k : Int)) (fun v _ => ops.length - (intOf v).toNat)
  case atStart => exact ⟨0, Nat.zero_le _, rfl, σ0, ρ, HRB.out, hduo.out, HRc.out, by rw [HRn.out]; exact Int.le_refl _⟩
  case round =>
    obtain ⟨k, hk, rfl, σ, ρ2, rfl, hD, hcl, hnow⟩ := hrel
    have HD := Lib.hid hD; clear hD
    have HCL := Lib.hid hcl; clear hcl
    by_cases hlt : k < ops.length
    · rcases HOps.out with hnil | ⟨g', o', rfl, hops⟩
      · rw [hnil] at hlt; simp at hlt
      · have hc7 := hops k ops[k] (List.getElem?_eq_getElem hlt)
        generalize ops[k] = x at *
        have e0 := HD.out.k.cell (by simp) (hc7 0 _ rfl)
        have e1 := HD.out.k.cell (by simp) (hc7 1 _ rfl)
        have e2 := HD.out.k.cell (by simp) (hc7 2 _ rfl)
        have e3 := HD.out.k.cell (by simp) (hc7 3 _ rfl)
        have e4 := HD.out.k.cell (by simp) (hc7 4 _ rfl)
        have e5 := HD.out.k.cell (by simp) (hc7 5 _ rfl)
        have e6 := HD.out.k.cell (by simp) (hc7 6 _ rfl)
        rw [Nat.add_zero] at e0
        clear hc7 hops
        go_upto_region 12 with fail
        have ka := (Keeps.refl [] wr).alloc (.cells #[.int .i64 x.kind, .int .i64 x.fk, .int .i64 x.ses, .int .i64 x.epo, .int .i64 x.idx, .int .i64 x.tot, .string x.s] 56)
        have ra := RowAt.new wr 56 [.int .i64 x.kind, .int .i64 x.fk, .int .i64 x.ses, .int .i64 x.epo, .int .i64 x.idx, .int .i64 x.tot, .string x.s]
        have d0 := ra.cell 0
        have d1 := ra.cell 1
        have d2 := ra.cell 2
        have d3 := ra.cell 3
        have d4 := ra.cell 4
        have d5 := ra.cell 5
        have d6 := ra.cell 6
        simp only [List.getElem?_cons_zero, List.getElem?_cons_succ] at d0 d1 d2 d3 d4 d5 d6
        have HD2 := Lib.hid (HD.out.keeps ka)
        have hbo := Lib.hid (show (∀ y ∈ β.all, y ≠ wr.heap.size) ∧ (∀ y ∈ ρ2.all, y ≠ wr.heap.size) from ⟨fun y hy => Nat.ne_of_lt (HD.out.s.all_lt HD.out.ok y hy), fun y hy => Nat.ne_of_lt (HD.out.r.all_lt HD.out.ok y hy)⟩)
        have RA := Lib.hid ra
        clear ka ra e0 e1 e2 e3 e4 e5 e6 HD
        generalize wr.alloc (.cells #[.int .i64 x.kind, .int .i64 x.fk, .int .i64 x.ses, .int .i64 x.epo, .int .i64 x.idx, .int .i64 x.tot, .string x.s] 56) = W at *
        generalize wr.heap.size = bo at *
        by_cases hsz : x.s.size ≤ 100
        · go_upto_if 75 with fail
          go_cut [75] (fun _ wx => ∃ (σ' : Snd) (ρ3 : RBlk), ρ3.b = ρ2.b ∧ Duo w β ρ3 σ' wx ∧ σ'.c.length = c.length ∧ σ'.now ≤ (k : Int) + 1)
          case first =>
            as_aux_lemma =>
              have hn9 : σ.now ≤ 999999 := by omega
              have HOK := Lib.hid (tickS_ok σ HD2.out.ok hn9)
              by_cases t1 : x.kind = 1
              · have t1 : (x.kind == 1) = true := by simpa using t1
                go_wp2_with fail
                refine (sTick_any β σ _ HD2.out.s HD2.out.ok HD2.out.nb hn9).mono ?_
                rintro e w6 ⟨v6, rfl, h6, s6, k6⟩
                have h6 := Lib.hid h6
                have s6 := Lib.hid s6
                have k6 := Lib.hid k6
                rename_i h60 s60 k60
                clear h60 s60 k60
                go_wp2_with fail
                refine (rtick_any ρ2 σ _ (duo_r1 HD2.out k6.out) HD2.out.ok HD2.out.nr hn9).mono ?_
                rintro e w7 ⟨v7, rfl, h7, r7, k7⟩
                have hd7 := duo_tick HD2.out hn9 h6.out s6.out k6.out h7 r7 k7
                have hd7 := Lib.hid hd7
                clear h7 r7 k7
                rename_i hd70
                clear hd70
                go_wp2_with fail
                refine (sameFrames_yes v6 v7 σ (tickS σ).due _ (tick_due_len σ HD2.out.ok) hd7.out.2.1 hd7.out.2.2).mono ?_
                rintro e w8 ⟨rfl, n8, rfl⟩
                have hd8 := Lib.hid (hd7.out.1.keeps (Keeps.of_drewN w7 n8))
                go_wp2_with fail
                go_meet
                exact ⟨(tickS σ).s, ρ2, rfl, hd8.out, by rw [HOK.out.2.1]; exact HCL.out, by have := HOK.out.2.2.1; omega⟩
              · have t1 : (x.kind == 1) = false := by simpa using t1
                go_wp2_with fail
                have HW0 := Lib.hid (show W.cell? ⟨bo, 1, none⟩ = some (.int .i64 x.fk) ∧ W.cell? ⟨bo, 2, none⟩ = some (.int .i64 x.ses) ∧ W.cell? ⟨bo, 3, none⟩ = some (.int .i64 x.epo) ∧ W.cell? ⟨bo, 4, none⟩ = some (.int .i64 x.idx) ∧ W.cell? ⟨bo, 5, none⟩ = some (.int .i64 x.tot) ∧ W.cell? ⟨bo, 6, none⟩ = some (.string x.s) from ⟨d1, d2, d3, d4, d5, d6⟩)
                go_region_held3 (fun w' => w'.cell? ⟨bo, 1, none⟩ = some (.int .i64 x.fk) ∧ w'.cell? ⟨bo, 2, none⟩ = some (.int .i64 x.ses) ∧ w'.cell? ⟨bo, 3, none⟩ = some (.int .i64 x.epo) ∧ w'.cell? ⟨bo, 4, none⟩ = some (.int .i64 x.idx) ∧ w'.cell? ⟨bo, 5, none⟩ = some (.int .i64 x.tot) ∧ w'.cell? ⟨bo, 6, none⟩ = some (.string x.s))
                  (first | exact hSb.out | exact hSa.out | exact HW0.out)
                  (first
                    | (go_at_call 34; refine (sAck_any β σ x.fk x.ses x.epo x.idx x.tot x.s _ HD2.out.drew.s HD2.out.ok HD2.out.nb (by omega)).mono ?_; rintro e w6 ⟨rfl, s6, k6⟩; have hSa := Lib.hid (show w6.cell? ⟨bo, 1, none⟩ = some (.int .i64 x.fk) ∧ w6.cell? ⟨bo, 2, none⟩ = some (.int .i64 x.ses) ∧ w6.cell? ⟨bo, 3, none⟩ = some (.int .i64 x.epo) ∧ w6.cell? ⟨bo, 4, none⟩ = some (.int .i64 x.idx) ∧ w6.cell? ⟨bo, 5, none⟩ = some (.int .i64 x.tot) ∧ w6.cell? ⟨bo, 6, none⟩ = some (.string x.s) from ⟨k6.cell (by simpa using Ne.symm (hbo.out.1 β.bm (by unfold SBlk.all; simp))) d1, k6.cell (by simpa using Ne.symm (hbo.out.1 β.bm (by unfold SBlk.all; simp))) d2, k6.cell (by simpa using Ne.symm (hbo.out.1 β.bm (by unfold SBlk.all; simp))) d3, k6.cell (by simpa using Ne.symm (hbo.out.1 β.bm (by unfold SBlk.all; simp))) d4, k6.cell (by simpa using Ne.symm (hbo.out.1 β.bm (by unfold SBlk.all; simp))) d5, k6.cell (by simpa using Ne.symm (hbo.out.1 β.bm (by unfold SBlk.all; simp))) d6⟩); have k6 := Lib.hid k6; have s6 := Lib.hid s6)
                    | (go_at_call 35; refine (rack_any ρ2 σ x.fk x.ses x.epo x.idx x.tot x.s _ (duo_r1 HD2.out.drew (k6.out.mono (by unfold SBlk.foot; simp))) HD2.out.ok HD2.out.nr (by omega)).mono ?_; rintro e w7 ⟨rfl, gi7, ci7, r7, hg7, k7⟩; have hSb := Lib.hid (show w7.cell? ⟨bo, 1, none⟩ = some (.int .i64 x.fk) ∧ w7.cell? ⟨bo, 2, none⟩ = some (.int .i64 x.ses) ∧ w7.cell? ⟨bo, 3, none⟩ = some (.int .i64 x.epo) ∧ w7.cell? ⟨bo, 4, none⟩ = some (.int .i64 x.idx) ∧ w7.cell? ⟨bo, 5, none⟩ = some (.int .i64 x.tot) ∧ w7.cell? ⟨bo, 6, none⟩ = some (.string x.s) from ⟨k7.cell (by simpa using Ne.symm (hbo.out.2 ρ2.b (by unfold RBlk.all; simp))) hSa.out.1, k7.cell (by simpa using Ne.symm (hbo.out.2 ρ2.b (by unfold RBlk.all; simp))) hSa.out.2.1, k7.cell (by simpa using Ne.symm (hbo.out.2 ρ2.b (by unfold RBlk.all; simp))) hSa.out.2.2.1, k7.cell (by simpa using Ne.symm (hbo.out.2 ρ2.b (by unfold RBlk.all; simp))) hSa.out.2.2.2.1, k7.cell (by simpa using Ne.symm (hbo.out.2 ρ2.b (by unfold RBlk.all; simp))) hSa.out.2.2.2.2.1, k7.cell (by simpa using Ne.symm (hbo.out.2 ρ2.b (by unfold RBlk.all; simp))) hSa.out.2.2.2.2.2⟩); have k7 := Lib.hid k7; have r7 := Lib.hid r7))
                have HAO := Lib.hid (ackS_ok σ HD2.out.ok x.fk x.ses x.epo x.idx x.tot x.s)
                have hd8 := Lib.hid (duo_ack HD2.out.drew HAO.out.1 s6.out k6.out r7.out hg7 k7.out)
                go_wp2_with fail
                go_meet
                exact ⟨_, { ρ2 with gi := gi7, ci := ci7 }, rfl, hd8.out, by rw [HAO.out.2.1]; exact HCL.out, by rw [HAO.out.2.2]; omega⟩
          case rest =>
            obtain ⟨σ', ρ3, hb3, hD3, hcl3, hnow3⟩ := hcut
            generalize hrb2 : ρ2.b = rb2 at *
            subst hb3
            have HRB2 := Lib.hid hrb2; clear hrb2
            have HD3 := Lib.hid hD3
            have HCL3 := Lib.hid hcl3
            clear hD3 hcl3 HD2 hbo RA d0 d1 d2 d3 d4 d5 d6
            have hll3 : σ'.l.length = c.length := by rw [HD3.out.ok.ll, HCL3.out]
            obtain ⟨E, hE⟩ : ∃ E : Int, errOf σ' = E := ⟨_, rfl⟩
            obtain ⟨B, hB⟩ : ∃ B : Int, (baseL σ'.l : Int) = B := ⟨_, rfl⟩
            obtain ⟨C, hC⟩ : ∃ C : Int, (countL σ'.l : Int) = C := ⟨_, rfl⟩
            obtain ⟨q, hq⟩ : ∃ q : Bool, (baseL σ'.l == σ'.l.length) = q := ⟨_, rfl⟩
            have hBq : (B == (c.length : Int)) = q := by rw [← hB, ← hq, hll3, Bool.eq_iff_iff]; simp; omega
            have HE := Lib.hid hE; clear hE
            have HB := Lib.hid hB; clear hB
            have HC2 := Lib.hid hC; clear hC
            have HQ := Lib.hid hq; clear hq
            have HLL := Lib.hid hll3; clear hll3
            go_upto_region 21 with fail
            go_cut [132] (fun v wx => v = .bool false ∧ Duo w β ρ3 σ' wx)
            case first =>
              as_aux_lemma =>
                go_region_held3 (fun w' => w'.cell? ⟨ρ3.b, 3, none⟩ = some (bslice ρ3.gi ρ3.ci σ'.l) ∧ Duo w β ρ3 σ' w')
                  (first | assumption | exact ⟨HD3.out.drew.r.c3, HD3.out.drew⟩)
                  (first
                    | (go_at_call 36; refine (err21 (by assumption) E HE.out).mono ?_; rintro e w' ⟨rfl, hS⟩)
                    | (go_at_call 37; refine (rerr21 (by assumption) E HE.out).mono ?_; rintro e w' ⟨rfl, hS⟩)
                    | (go_at_call 38; refine (done21 (by assumption) q HQ.out).mono ?_; rintro e w' ⟨rfl, hS⟩)
                    | (go_at_call 16; refine (rbase21 (by assumption) B HB.out).mono ?_; rintro e w' ⟨rfl, rfl⟩)
                    | (go_at_call 39; refine (there21 (by assumption)).mono ?_; rintro e w' ⟨m, rfl, hm, hS⟩)
                    | (go_at_call 17; refine (count_lit _ σ'.l C _ (by assumption) HC2.out).mono ?_; rintro e w' ⟨rfl, rfl⟩)
                    | (go_at_call 18; refine (rcount21 (by assumption) C HC2.out).mono ?_; rintro e w' ⟨rfl, rfl⟩))
                go_wp2_with fail
                go_meet
                rename_i hlast
                exact ⟨rfl, hlast.2⟩
            case rest =>
              obtain ⟨rfl, hD4⟩ := hcut
              have HD4 := Lib.hid hD4
              clear hD4 HE HB HC2 HQ hBq
              go_wp2_with fail
              go_loopw [135] (fun v wr => ∃ j : Nat, j ≤ c.length ∧ v = .int .i64 j ∧ Duo w β ρ3 σ' wr) (fun v _ => c.length - (intOf v).toNat)
              case atStart => exact ⟨0, Nat.zero_le _, rfl, HD4.out⟩
              case round =>
                obtain ⟨j, hj, rfl, hD5⟩ := hrel
                have HD5 := Lib.hid hD5; clear hD5
                by_cases hjl : j < c.length
                · obtain ⟨X, hX⟩ : ∃ X : Int, σ'.tr.getD j 0 = X := ⟨_, rfl⟩
                  obtain ⟨Q, hQ⟩ : ∃ Q : Bool, at' σ'.l j = Q := ⟨_, rfl⟩
                  have g1 := HD5.out.r.tr.cell j (by rw [HD5.out.ok.lt, HCL3.out]; exact hjl)
                  have g2 := HD5.out.r.bools.cell j (by rw [HLL.out]; exact hjl)
                  rw [hX] at g1
                  rw [hQ] at g2
                  have HX := Lib.hid hX; clear hX
                  have HQ2 := Lib.hid (show hasL σ'.l (j : Int) = Q from by rw [hasL_nat, hQ]); clear hQ
                  have hS0 := Lib.hid (show (wr.drew).cell? ⟨ρ3.b, 3, none⟩ = some (bslice ρ3.gi ρ3.ci σ'.l) ∧ (wr.drew).cell? ⟨ρ3.b, 4, none⟩ = some (sl ρ3.gt σ'.c.length ρ3.ct) ∧ (wr.drew).cell? ⟨ρ3.gt, j, none⟩ = some (.int .i64 X) ∧ (wr.drew).cell? ⟨ρ3.gi, j, none⟩ = some (.bool Q) ∧ Duo w β ρ3 σ' wr.drew from ⟨HD5.out.drew.r.c3, HD5.out.drew.r.c4, g1, g2, HD5.out.drew⟩)
                  have b0 : (0 : Int) ≤ (j : Int) := Int.natCast_nonneg _
                  have b1 : (j : Int) < (σ'.c.length : Int) := by have := HCL3.out; omega
                  have b2 : (j : Int) < (σ'.l.length : Int) := by have := HLL.out; omega
                  clear g1 g2
                  go_upto_region 26 with fail
                  go_cut [162] (fun v wx => v = .bool false ∧ Duo w β ρ3 σ' wx)
                  case first =>
                    as_aux_lemma =>
                      go_region_held3 (fun w' => w'.cell? ⟨ρ3.b, 3, none⟩ = some (bslice ρ3.gi ρ3.ci σ'.l) ∧ w'.cell? ⟨ρ3.b, 4, none⟩ = some (sl ρ3.gt σ'.c.length ρ3.ct) ∧ w'.cell? ⟨ρ3.gt, j, none⟩ = some (.int .i64 X) ∧ w'.cell? ⟨ρ3.gi, j, none⟩ = some (.bool Q) ∧ Duo w β ρ3 σ' w')
                        (first | assumption | exact hS0.out)
                        (first
                          | (go_at_call 40; refine (tries26 (by assumption) b1 HX.out).mono ?_; rintro e w' ⟨rfl, rfl⟩)
                          | (go_at_call 39; refine (there26 (by assumption)).mono ?_; rintro e w' ⟨m, rfl, hm, hS⟩)
                          | (go_at_call 14; refine (has_lit _ σ'.l _ Q _ (by assumption) HQ2.out).mono ?_; rintro e w' ⟨rfl, rfl⟩))
                      go_wp2_with fail
                      go_meet
                      rename_i hlast
                      exact ⟨rfl, hlast.2.2.2.2⟩
                  case rest =>
                    obtain ⟨rfl, hD6⟩ := hcut
                    have HD6 := Lib.hid hD6; clear hD6
                    go_wp2_with fail
                    go_roundw
                    case rel => exact ⟨j + 1, by omega, by go_num, HD6.out⟩
                    case measure => simp [intOf]; omega
                · obtain rfl : j = c.length := by omega
                  go_wp2_with fail
                  go_roundw
                  case rel => rw [HRB2.out]; (repeat apply Exists.intro); exact ⟨⟨k + 1, by omega, by go_num, σ', ρ3, rfl, HD5.out, HCL3.out, by omega⟩, rfl⟩
                  case measure => simp [intOf]; omega
        · go_wp2_with fail
          go_ret
          exact ⟨rfl, HD2.out.k⟩
    · obtain rfl : k = ops.length := by omega
      go_wp2_with fail
      go_ret
      exact ⟨rfl, HD.out.k⟩
end Go.Proofs.Ytffcambjdlkfbaa
