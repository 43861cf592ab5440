/- Contract of the receiver's Take (package receiver). -/
import Derived.Test.YtffcambjdlkfbaaRecF
namespace Go.Proofs.Ytffcambjdlkfbaa
open Go.RowKit Go.Maps

theorem law25 : Keyed Try.prog 25 := int_keyed Try.underlying25
theorem zero3 (w : World) : (zeroValue 3).run Try.prog w = .ok (.int .i64 0) w := by kernel_rfl

theorem wrongE_range (r : Rcv) (f : Frm) : 0 ≤ wrongE r f ∧ wrongE r f < 20 := by
  unfold wrongE
  repeat' split
  all_goals omega

section
variable {w : World} {b m g cap k t : Nat} {r : Rcv} {d : List Int} {c : List ByteArray} {l : List Bool}
theorem DropsAt.obj (h : DropsAt w k t d) : ∃ es n, w.heap[k]? = some (.map es n) := by
  obtain ⟨_, _, D, ⟨es, n, hb, _⟩, _⟩ := h
  exact ⟨es, n, hb⟩
theorem TextsAt.obj (h : TextsAt w g cap c) : ∃ cur, w.heap[g]? = some (.cells cur 9 (0, 0)) := by
  rcases h.2 with ⟨h, _⟩ | ⟨g', cap', cur, hv, _, hg, _⟩
  · cases h
  · cases hv; exact ⟨cur, hg⟩
theorem MapAt.obj (h : MapAt w m l) : ∃ cur, w.heap[m]? = some (.cells cur 99 (0, 0)) := by
  obtain ⟨_, _, X, _, hh⟩ := h
  exact ⟨_, hh⟩
theorem ne_of_heap {a b : Nat} {x y : Obj} (ha : w.heap[a]? = some x) (hb : w.heap[b]? = some y) (h : x ≠ y) : a ≠ b := fun e => by
  subst e; rw [ha] at hb; exact h (Option.some.inj hb)

/-- The four blocks are four. -/
theorem RcvAt.apart (h : RcvAt w b m g cap k t r) : b ≠ m ∧ b ≠ g ∧ b ≠ k ∧ m ≠ g ∧ m ≠ k ∧ g ≠ k := by
  obtain ⟨es, n, hk⟩ := h.dr.obj
  obtain ⟨cur, hg⟩ := h.txt.obj
  obtain ⟨cur2, hm⟩ := h.map.obj
  have hb : w.heap[b]? = some _ := h.row
  refine ⟨ne_of_heap hb hm ?_, ne_of_heap hb hg ?_, ne_of_heap hb hk ?_, ne_of_heap hm hg ?_, ne_of_heap hm hk ?_, ne_of_heap hg hk ?_⟩
  all_goals (intro e; injection e; try contradiction)
theorem RcvAt.lt (h : RcvAt w b m g cap k t r) : b < w.heap.size ∧ m < w.heap.size ∧ g < w.heap.size ∧ k < w.heap.size :=
  ⟨h.row.lt, h.map.lt, h.txt.lt, h.dr.lt⟩
end

theorem getD_setI (d : List Int) (i j : Nat) (x : Int) (h : i < d.length) : (d.set i x).getD j 0 = if j = i then x else d.getD j 0 := by
  rw [List.getD_eq_getElem?_getD, List.getElem?_set]
  by_cases e : i = j
  · subst e; simp [h]
  · rw [if_neg e, if_neg (fun h => e h.symm), List.getD_eq_getElem?_getD]

/-- A count, one more. -/
theorem drops_put {w' : World} {k t : Nat} {d : List Int} {D : DataW Unit} (h1 : d.length = 20) (h2 : ∀ i : Nat, 0 ≤ d.getD i 0 ∧ d.getD i 0 ≤ (t : Int)) (E : Nat) (hE : E < 20)
    (h3 : ∀ i : Nat, i < 20 → D.atKey (.int .i64 (i : Int)) (.lit (.int .i64 0)) = .lit (.int .i64 (d.getD i 0))) (hm : IsMap D)
    (hown : w'.ownsMap Try.prog 25 (plainElem Try.prog 3) k (t + 1) (D.put (.int .i64 (E : Int)) (.lit (.int .i64 (d.getD E 0 + 1))))) : DropsAt w' k (t + 1) (d.set E (d.getD E 0 + 1)) := by
  refine ⟨by simpa using h1, fun i => ?_, _, hown, fun i hi => ?_⟩
  · rw [getD_setI _ _ _ _ (by omega)]
    have := h2 E
    have := h2 i
    split <;> omega
  · rw [getD_setI _ _ _ _ (by omega)]
    by_cases e : i = E
    · subst e
      rw [if_pos rfl]
      exact atKey_put_same hm (by simp [WideAt.IsKeyLit]) _ _
    · rw [if_neg e, atKey_put_other (by intro h; injection h with _ h; omega)]
      exact h3 i hi

set_option maxRecDepth 100000 in
set_option maxHeartbeats 4000000 in
theorem take50_no (b m g cap k t : Nat) (r : Rcv) (f : Frm) (E : Nat) (w : World) (h : RcvAt w b m g cap k t r) (hE : wrongE r f = E) (h0 : E ≠ 0) (ht : t ≤ 1000000) :
    Calls Try.prog 50 #[ptr b, f.val] w fun e w' => e = .returned (.int .i64 E) ∧ RcvAt w' b m g cap k (t + 1) (r.drop E) ∧ Keeps [k] w w' := by
  have hr := wrongE_range r f
  have hE20 : E < 20 := by omega
  clear hr
  have hap := h.apart
  have ka := (Keeps.refl [] w).alloc (.cells #[.int .i64 f.fk, .int .i64 f.ses, .int .i64 f.epo, .int .i64 f.idx, .int .i64 f.tot, .string f.s] 54)
  have HW := Lib.hid (wrong80 b m g cap k t r w.heap.size f (w.alloc (.cells #[.int .i64 f.fk, .int .i64 f.ses, .int .i64 f.epo, .int .i64 f.idx, .int .i64 f.tot, .string f.s] 54)) (h.quiet ka) (frm_new w _ _ _ _ _ _ (Keeps.refl _ _)))
  have HA := Lib.hid hap; clear hap
  have HKa := Lib.hid ka; clear ka
  have H := Lib.hid h; clear h
  have HE := Lib.hid hE; clear hE
  have t0 : ((E : Int) == 0) = false := by simp; omega
  have t0' : ((E : Int) != 0) = true := by simp; omega
  unfold Frm.val
  go_enter Try.func50, Try.ntmps50
  go_wp2_with fail
  refine (HW.out).mono ?_
  rw [HE.out]
  rintro e w1 ⟨rfl, hk1⟩
  have k1 := HKa.out.trans hk1
  have h1 := H.out.quiet k1
  have c4 := h1.c4
  obtain ⟨d1, d2, D, hown, d3⟩ := h1.dr
  have hdE := d2 E
  obtain ⟨x, hx⟩ : ∃ x, r.d.getD E 0 = x := ⟨_, rfl⟩
  have hDE := d3 E hE20
  rw [hx] at hdE hDE
  have HX := Lib.hid hx; clear hx
  have HDE := Lib.hid hDE; clear hDE
  have H1 := Lib.hid h1
  have K1 := Lib.hid k1
  have HD3 := Lib.hid d3
  have HD2 := Lib.hid d2
  clear hk1 h1 k1 d3 d2
  go_wp2_with (first
    | (at_lookup; refine wpList_lookup_own_int _ rfl _ _ 111 rfl 25 3 .i64 law25 Try.underlying111 Try.underlying3 (zero3 _) k t _ rfl hown _ _ rfl (keyOf_int_mk Try.underlying25 (WalkArith.wf_i64 (by omega))) ?_; intro c hat hwc; have hc : c = x := (by rw [HDE.out] at hat; injection hat with hat; injection hat with _ hat; exact hat.symm); subst hc)
    | (at_mapUpdate; refine wpList_mapUpdate_own _ rfl _ _ _ 111 rfl 25 3 law25 Try.underlying111 _ k t _ rfl hown (by unfold maxLen; omega) _ _ _ rfl rfl (keyOf_int_mk Try.underlying25 (WalkArith.wf_i64 (by omega))) _ [] (plainElem_int Try.underlying3 (by first | exact wrap64_wf _ | exact WalkArith.wf_i64 (by omega))) ?_; intro w2 hown2 hgrow2)
    | go_in)
  go_ret
  have kk : Keeps [k] w1 w2 := (Keeps.refl [k] w1).grown hgrow2 (fun j hj => by cases hj; simp)
  obtain ⟨a1, a2, a3, a4, a5, a6⟩ := HA.out
  refine ⟨rfl, ⟨H1.out.row.keeps kk (by simpa using a3), H1.out.map.keeps kk (by simpa using a5), H1.out.txt.keeps kk (by simpa using a6), H1.out.len, ?_⟩, (K1.out.mono (by simp)).trans kk⟩
  have := drops_put d1 HD2.out E hE20 HD3.out (hown.tidy law25).isMap (by rw [HX.out]; exact hown2)
  simpa [Rcv.drop] using this

theorem wrongE_zero {r : Rcv} {f : Frm} (h : wrongE r f = 0) : f.fk = 1 ∧ f.Right ∧ f.ses = (r.ses : Int) ∧ f.epo = (r.epo : Int) ∧ f.tot = (r.l.length : Int) ∧ 0 ≤ f.idx ∧ f.idx < (r.l.length : Int) ∧ f.s.size ≤ 1000 ∧ at' r.l f.idx.toNat = false := by
  unfold wrongE at h
  by_cases h1 : f.fk = 1
  · rw [if_neg (by simpa using h1)] at h
    by_cases h2 : f.Right
    · rw [if_neg (by simpa using h2)] at h
      have h0 : 0 ≤ f.idx := h2.2.2.2.1.1
      by_cases h3 : f.ses = (r.ses : Int)
      · rw [if_neg (by simpa using h3)] at h
        by_cases h4 : f.epo = (r.epo : Int)
        · rw [if_neg (by simpa using h4)] at h
          by_cases h5 : f.tot = (r.l.length : Int)
          · rw [if_neg (by simpa using h5)] at h
            by_cases h6 : f.tot ≤ f.idx
            · rw [if_pos h6] at h; omega
            · rw [if_neg h6] at h
              by_cases h7 : 1000 < f.s.size
              · rw [if_pos h7] at h; omega
              · rw [if_neg h7] at h
                by_cases h8 : at' r.l f.idx.toNat = true
                · rw [if_pos h8] at h; omega
                · exact ⟨h1, h2, h3, h4, h5, h0, by omega, by omega, by simpa using h8⟩
          · rw [if_pos h5] at h; omega
        · rw [if_pos h4] at h; omega
      · rw [if_pos h3] at h; omega
    · rw [if_pos h2] at h; omega
  · rw [if_pos h1] at h; omega

set_option maxRecDepth 100000 in
set_option maxHeartbeats 4000000 in
theorem take50_yes (b m g cap k t : Nat) (r : Rcv) (f : Frm) (w : World) (h : RcvAt w b m g cap k t r) (hE : wrongE r f = 0) :
    Calls Try.prog 50 #[ptr b, f.val] w fun e w' => e = .returned (.int .i64 0) ∧ RcvAt w' b m g cap k (t + 1) (r.put f.idx.toNat f.s) ∧ Keeps [m, g] w w' := by
  have hi0 := (wrongE_zero hE).2.2.2.2.2.1
  have hil := (wrongE_zero hE).2.2.2.2.2.2.1
  have hat := (wrongE_zero hE).2.2.2.2.2.2.2.2
  have hap := h.apart
  have ka := (Keeps.refl [] w).alloc (.cells #[.int .i64 f.fk, .int .i64 f.ses, .int .i64 f.epo, .int .i64 f.idx, .int .i64 f.tot, .string f.s] 54)
  have HW := Lib.hid (wrong80 b m g cap k t r w.heap.size f (w.alloc (.cells #[.int .i64 f.fk, .int .i64 f.ses, .int .i64 f.epo, .int .i64 f.idx, .int .i64 f.tot, .string f.s] 54)) (h.quiet ka) (frm_new w _ _ _ _ _ _ (Keeps.refl _ _)))
  have HA := Lib.hid hap; clear hap
  have HKa := Lib.hid ka; clear ka
  have hlt := h.lt
  have HLt := Lib.hid hlt; clear hlt
  have H := Lib.hid h; clear h
  have HE := Lib.hid hE; clear hE
  obtain ⟨i, hi⟩ := Int.eq_ofNat_of_zero_le hi0
  obtain ⟨fk, ses, epo, idx, tot, s⟩ := f
  dsimp only at *
  subst hi
  rw [Int.toNat_natCast] at *
  have HAt := Lib.hid hat; clear hat
  unfold Frm.val
  go_enter Try.func50, Try.ntmps50
  go_wp2_with fail
  refine (HW.out).mono ?_
  rw [HE.out]
  rintro e w1 ⟨rfl, hk1⟩
  have hf := frm_new w _ _ _ _ _ _ hk1
  have f3 := hf.f3
  have f5 := hf.f5
  have HF := Lib.hid hf; clear hf
  have k1 := HKa.out.trans hk1
  have h1 := H.out.quiet k1
  have c2 := h1.c2
  have c3 := h1.c3
  have H1 := Lib.hid h1
  have K1 := Lib.hid k1
  generalize hfb : w.heap.size = fb at *
  have HFb := Lib.hid hfb; clear hfb
  clear hk1 h1 k1
  have hso : setOk r.l (i : Int) = true := by simp [setOk, HAt.out]; omega
  have hsl : setL r.l (i : Int) = r.l.set i true := by unfold setL; rw [hso]; simp
  have HS1 := Lib.hid hso; clear hso
  have HS2 := Lib.hid hsl; clear hsl
  go_wp2_with fail
  go_region_with (first | (go_at_call 11; refine (set_lit m r.l _ _ true _ H1.out.map.drew HS1.out HS2.out).mono ?_; rintro e w2 ⟨rfl, m2, k2⟩; have m2 := Lib.hid m2; have k2 := Lib.hid k2))
  all_goals
    obtain ⟨a1, a2, a3, a4, a5, a6⟩ := HA.out
    have HA := Lib.hid HA.out
    have k12 : Keeps [m] w1 w2 := (Keeps.refl [m] w1).drew.trans k2.out
    have c3 := k12.cell (by simpa using a1) c3
    have f3 := k12.cell (by have := HLt.out.2.1; simp; omega) f3
    have f5 := k12.cell (by have := HLt.out.2.1; simp; omega) f5
    have ht := H1.out.txt.keeps k12 (by simpa using a4.symm)
    have fr := ht.free i
    have ce := ht.cell i (by have := H1.out.len; omega)
    have HT := Lib.hid ht; clear ht
    have HK12 := Lib.hid k12; clear k12
    clear a1 a2 a3 a4 a5 a6
    go_wp2_with fail
    go_region
    all_goals
      go_wp2_with fail
      go_ret
      obtain ⟨a1, a2, a3, a4, a5, a6⟩ := HA.out
      have k23 : Keeps [g] w2 ((w2.setCell ⟨g, i, none⟩ (.string s)).drew) := (keeps_store1 w2 g i (.string s)).drew
      have k13 : Keeps [m, g] w1 ((w2.setCell ⟨g, i, none⟩ (.string s)).drew) := (HK12.out.mono (by simp)).trans (k23.mono (by simp))
      have hrow := H1.out.row.keeps k13 (by simp [a1, a2])
      have el : (r.put i s).l.length = r.l.length := by simp [Rcv.put]
      refine ⟨rfl, ⟨by rw [el]; exact hrow, m2.out.keeps k23 (by simpa using a4), HT.out.set i s, ?_, (H1.out.dr.keeps k13 (by simp [a5.symm, a6.symm])).more (by omega)⟩, (K1.out.mono (by simp)).trans k13⟩
      simpa [Rcv.put] using H1.out.len

/-- Take. -/
theorem take50 (b m g cap k t : Nat) (r : Rcv) (f : Frm) (w : World) (h : RcvAt w b m g cap k t r) (ht : t ≤ 1000000) (E : Int) (R : Rcv) (hE : wrongE r f = E) (hR : r.take f = R) :
    Calls Try.prog 50 #[ptr b, f.val] w fun e w' => e = .returned (.int .i64 E) ∧ RcvAt w' b m g cap k (t + 1) R ∧ Keeps [m, g, k] w w' := by
  subst hR
  unfold Rcv.take
  have hr := wrongE_range r f
  by_cases h0 : wrongE r f = 0
  · rw [if_pos h0]
    obtain rfl : E = 0 := by omega
    exact (take50_yes b m g cap k t r f w h h0).mono fun e w' ⟨h1, h2, h3⟩ => ⟨h1, h2, h3.mono (by simp)⟩
  · rw [if_neg h0, hE]
    obtain ⟨n, rfl⟩ : ∃ n : Nat, E = n := ⟨E.toNat, by omega⟩
    exact (take50_no b m g cap k t r f n w h hE (by omega) ht).mono fun e w' ⟨h1, h2, h3⟩ => ⟨h1, h2, h3.mono (by simp)⟩

theorem take_good {r : Rcv} (h : r.Good) (f : Frm) : (r.take f).Good := by
  unfold Rcv.take
  split
  · rename_i h0
    obtain ⟨_, _, _, _, _, hi0, hil, hs, _⟩ := wrongE_zero h0
    exact put_good r h f.idx.toNat (by omega) f.s hs
  · exact ⟨h.ses, h.epo, h.len, h.low, h.high, h.none, h.most, by simpa [Rcv.drop] using h.dlen⟩
end Go.Proofs.Ytffcambjdlkfbaa
