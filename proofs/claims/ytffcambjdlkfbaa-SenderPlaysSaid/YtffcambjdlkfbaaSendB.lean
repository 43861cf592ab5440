/- Contracts of slices.DeleteFunc over ints that the call owns, and of slices.Clone over strings. -/
import Derived.Test.YtffcambjdlkfbaaSendA
namespace Go.Proofs.Ytffcambjdlkfbaa
open Go.RowKit

/-- What DeleteFunc leaves. -/
def DelPost (g : Nat) (ys : List Int) (w : World) (e : Ending) (w' : World) : Prop :=
  ∃ v, e = .returned v ∧ Reads w' v (ys.map (Value.int .i64)) ∧ Keeps [g] w w' ∧ ∀ k, v.ownBlock = some k → k = g

theorem filter_none (p : Int → Bool) (xs : List Int) (h : firstYes p xs = -1) : xs.filter (fun x => !p x) = xs := by
  refine List.filter_eq_self.2 fun x hx => ?_
  unfold firstYes at h
  split at h
  · omega
  · rename_i hn
    cases hp : p x with
    | false => rfl
    | true => exact absurd (List.any_eq_true.2 ⟨x, hx, hp⟩) hn

theorem firstYes_some (p : Int → Bool) (xs : List Int) (h : firstYes p xs ≠ -1) : ∃ k : Nat, firstYes p xs = k ∧ k < xs.length ∧ (∀ j, j < k → p (xs.getD j 0) = false) ∧ p (xs.getD k 0) = true := by
  unfold firstYes at h ⊢
  split at h
  · rename_i hy
    rw [if_pos hy]
    have hlt : xs.findIdx p < xs.length := List.findIdx_lt_length_of_exists (by
      obtain ⟨x, hx, hp⟩ := List.any_eq_true.1 hy; exact ⟨x, hx, hp⟩)
    refine ⟨_, rfl, hlt, fun j hj => ?_, ?_⟩
    · have := List.not_of_lt_findIdx hj
      rw [List.getD_eq_getElem?_getD, List.getElem?_eq_getElem (by omega)]
      simpa using this
    · have := List.findIdx_getElem (w := hlt)
      rw [List.getD_eq_getElem?_getD, List.getElem?_eq_getElem hlt]
      exact this
  · exact absurd rfl h

/-- The row while it is being cut: the first i are what was kept of the first j; from j on it is as it was. -/
structure Cut (p : Int → Bool) (xs D : List Int) (i j : Nat) : Prop where
  len : D.length = xs.length
  lt : i < j
  le : j ≤ xs.length
  head : D.take i = (xs.take j).filter fun x => !p x
  tail : ∀ k, j ≤ k → D.getD k 0 = xs.getD k 0

theorem take_succ_getI (xs : List Int) (j : Nat) (h : j < xs.length) : xs.take (j + 1) = xs.take j ++ [xs.getD j 0] := by
  rw [List.take_succ_eq_append_getElem h, List.getD_eq_getElem?_getD, List.getElem?_eq_getElem h]; rfl

theorem Cut.start (p : Int → Bool) (xs : List Int) (k : Nat) (hk : k < xs.length) (h1 : ∀ j, j < k → p (xs.getD j 0) = false) (h2 : p (xs.getD k 0) = true) : Cut p xs xs k (k + 1) := by
  refine ⟨rfl, by omega, by omega, ?_, fun _ _ => rfl⟩
  rw [take_succ_getI xs k hk, List.filter_append]
  have e : [xs.getD k 0].filter (fun x => !p x) = [] := by rw [List.filter_cons, h2]; rfl
  rw [e, List.append_nil]
  refine (List.filter_eq_self.2 fun x hx => ?_).symm
  obtain ⟨i, hi, rfl⟩ := List.mem_iff_getElem.1 hx
  have hi' : i < k := by simp at hi; omega
  have := h1 i hi'
  rw [List.getD_eq_getElem?_getD, List.getElem?_eq_getElem (by omega)] at this
  rw [List.getElem_take]
  simpa using this

theorem Cut.skip {p : Int → Bool} {xs D : List Int} {i j : Nat} (h : Cut p xs D i j) (hj : j < xs.length) (hp : p (xs.getD j 0) = true) : Cut p xs D i (j + 1) := by
  refine ⟨h.len, by have := h.lt; omega, by omega, ?_, fun k hk => h.tail k (by omega)⟩
  rw [take_succ_getI xs j hj, List.filter_append, h.head]
  have e : [xs.getD j 0].filter (fun x => !p x) = [] := by rw [List.filter_cons, hp]; rfl
  rw [e, List.append_nil]

theorem Cut.keep {p : Int → Bool} {xs D : List Int} {i j : Nat} (h : Cut p xs D i j) (hj : j < xs.length) (hp : p (xs.getD j 0) = false) : Cut p xs (D.set i (xs.getD j 0)) (i + 1) (j + 1) := by
  have hlt := h.lt
  have hlen := h.len
  refine ⟨by rw [List.length_set]; exact h.len, by omega, by omega, ?_, fun k hk => ?_⟩
  · rw [take_succ_getI xs j hj, List.filter_append, ← h.head]
    have e : [xs.getD j 0].filter (fun x => !p x) = [xs.getD j 0] := by rw [List.filter_cons, hp]; rfl
    rw [e, List.take_succ_eq_append_getElem (by rw [List.length_set]; omega), List.getElem_set_self, List.take_set_of_le (Nat.le_refl _)]
  · rw [getD_set, if_neg (by omega)]
    exact h.tail k (by omega)

theorem keeps_setCells (g : Nat) : ∀ (vs : List Value) (o : Nat) (w : World), Keeps [g] w (w.setCells g o vs)
  | [], _, w => Keeps.refl _ w
  | v :: r, o, w => ((Keeps.refl [g] w).setCell (p := ⟨g, o, none⟩) (Or.inl (List.mem_singleton.2 rfl)) v).trans (keeps_setCells g r (o + 1) _)

set_option maxRecDepth 100000 in
theorem delFunc_some (fid cb g cap : Nat) (p : Int → Bool) (xs : List Int) (w : World) (hl : xs.length ≤ 1000) (hE : Enters fid) (h0 : IntsAt w g cap xs) (ha : Asks fid (ptr cb) [g] w p xs) :
    Calls Try.prog 86 #[.slice (some ⟨g, 0, none⟩) xs.length cap, .func (.func fid) #[] #[ptr cb]] w (DelPost g (xs.filter fun x => !p x) w) := by
  have hi := indexFunc_any fid cb [g] p _ xs w hl hE h0.reads ha
  have HI := Lib.hid hi; clear hi
  have H0 := Lib.hid h0
  have HA := Lib.hid ha; clear ha
  have hlen := h0.len
  unfold maxLen at hlen
  obtain ⟨hlc, hcm⟩ := hlen
  clear h0
  unfold Enters at hE
  by_cases hr : firstYes p xs = -1
  · have HF := Lib.hid (filter_none p xs hr)
    have HR := Lib.hid hr; clear hr
    go_enter Try.func86, Try.ntmps86
    go_wp2_with fail
    refine (HI.out).mono ?_
    rw [HR.out]
    rintro e w' ⟨rfl, n, rfl⟩
    go_wp2_with fail
    go_ret
    exact ⟨_, rfl, by rw [HF.out]; exact (H0.out.keeps ((Keeps.of_drewN w n).mono (T := []) (by simp)) (by simp)).reads, (Keeps.of_drewN w n).mono (by simp), fun _ h => by cases h; rfl⟩
  · obtain ⟨k0, hr0, hk0, hb0, hy0⟩ := firstYes_some p xs hr
    have HCut := Lib.hid (Cut.start p xs k0 hk0 hb0 hy0)
    have HR := Lib.hid hr0; clear hr0 hr hb0 hy0
    go_enter Try.func86, Try.ntmps86
    go_wp2_with fail
    refine (HI.out).mono ?_
    rw [HR.out]
    rintro e w' ⟨rfl, n, rfl⟩
    go_wp2_with fail
    go_loopw [5, 6] (fun a c wr => ∃ (i j : Nat) (D : List Int), a = .int .i64 i ∧ c = .int .i64 j ∧ Cut p xs D i j ∧ IntsAt wr g cap D ∧ Keeps [g] w wr) (fun _ c _ => xs.length - (intOf c).toNat)
    case atStart => exact ⟨k0, k0 + 1, xs, rfl, by go_num, HCut.out, H0.out.keeps ((Keeps.of_drewN w n).mono (T := []) (by simp)) (by simp), (Keeps.of_drewN w n).mono (by simp)⟩
    case round =>
      obtain ⟨i, j, D, rfl, rfl, hcut, hD, hkp⟩ := hrel
      have hlt := hcut.lt
      have hle := hcut.le
      have hDl := hcut.len
      by_cases hj : j < xs.length
      · have hc := hD.cell j (by omega)
        rw [hcut.tail j (Nat.le_refl _)] at hc
        have hf := hD.free i
        have hci := hD.cell i (by omega)
        have hcall := HA.out wr hkp _ (getD_mem xs j hj)
        cases hp : p (xs.getD j 0) with
        | true =>
          have HC2 := Lib.hid (hcut.skip hj hp)
          generalize xs.getD j 0 = y at *
          have HP := Lib.hid hp; clear hp
          have HCall := Lib.hid hcall; clear hcall
          have HD := Lib.hid hD; clear hD
          have HK := Lib.hid hkp; clear hkp
          have hcut := Lib.hid hcut
          rename_i hcut0
          clear hcut0
          go_wp2_with fail
          refine (HCall.out).mono ?_
          rw [HP.out]
          rintro e w' ⟨rfl, m, rfl⟩
          go_wp2_with fail
          go_roundw
          case rel => (repeat apply Exists.intro); exact ⟨⟨i, j + 1, D, rfl, by go_num, HC2.out, HD.out.keeps ((Keeps.of_drewN wr m).mono (T := []) (by simp)) (by simp), HK.out.trans ((Keeps.of_drewN wr m).mono (by simp))⟩, rfl⟩
          case measure => simp [intOf]; omega
        | false =>
          have HC2 := Lib.hid (hcut.keep hj hp)
          generalize xs.getD j 0 = y at *
          have HP := Lib.hid hp; clear hp
          have HCall := Lib.hid hcall; clear hcall
          have HD := Lib.hid hD; clear hD
          have HK := Lib.hid hkp; clear hkp
          have hcut := Lib.hid hcut
          rename_i hcut0
          clear hcut0
          generalize D.getD i 0 = z at *
          go_wp2_with fail
          refine (HCall.out).mono ?_
          rw [HP.out]
          rintro e w' ⟨rfl, m, rfl⟩
          go_wp2_with fail
          have hd2 := HD.out.keeps ((Keeps.of_drewN wr m).mono (T := []) (by simp)) (by simp)
          have hk2 := HK.out.trans ((Keeps.of_drewN wr m).mono (T := [g]) (by simp))
          go_roundw
          case rel => (repeat apply Exists.intro); exact ⟨⟨i + 1, j + 1, D.set i y, by go_num, by go_num, HC2.out, hd2.set i y, hk2.setCell (Or.inl (List.mem_singleton.2 rfl)) _⟩, rfl⟩
          case measure => simp [intOf]; omega
      · obtain rfl : j = xs.length := by omega
        have hhead := hcut.head
        rw [List.take_length] at hhead
        have HH := Lib.hid hhead; clear hhead
        have hz : ∀ w, (zeroValue 3).run Try.prog w = .ok (.int .i64 0) w := fun _ => by kernel_rfl
        have hcl : ∀ ty, (Builtin.clear_ #[40] ty #[.slice (some ⟨g, i, none⟩) (xs.length - i) (cap - i)]).run Try.prog wr = .ok (.tuple #[]) (wr.setCells g i (List.replicate (xs.length - i) (.int .i64 0))) :=
          fun ty => Lib.run_clear_slice wr 40 3 ty (.int .i64 0) Try.underlying40 hz rfl rfl g i _ _ (by omega) (fun k hk => by rw [hD.cell (i + k) (by omega)]; rfl) (fun k _ => hD.free _)
        have hout : ∀ k u, ((xs.filter fun x => !p x).map (Value.int .i64))[k]? = some u → (wr.setCells g i (List.replicate (xs.length - i) (.int .i64 0))).cell? ⟨g, 0 + k, none⟩ = some u := fun k u hk => by
          rw [← HH.out] at hk
          have hki : k < i := by
            have := (List.getElem?_eq_some_iff.1 hk).1
            simp at this; omega
          rw [World.cell?_setCells_out _ _ _ _ _ (fun _ _ => Or.inl (by simpa using hki)), Nat.zero_add, hD.cell k (by omega)]
          rw [List.getElem?_map, List.getElem?_take, if_pos hki] at hk
          rw [List.getD_eq_getElem?_getD]
          have hk2 : D[k]? = some D[k] := List.getElem?_eq_getElem (by omega)
          rw [hk2] at hk ⊢
          simpa using hk
        have HOut := Lib.hid hout; clear hout
        have hlen2 : (xs.filter fun x => !p x).length = i := by rw [← HH.out, List.length_take]; omega
        have HL := Lib.hid hlen2; clear hlen2
        have HKc := Lib.hid (hkp.trans (keeps_setCells g (List.replicate (xs.length - i) (.int .i64 0)) i wr))
        have hkp := Lib.hid hkp
        have hD := Lib.hid hD
        have hcut := Lib.hid hcut
        rename_i hcut0 hD0 hkp0
        clear hcut0 hD0 hkp0 hz
        go_wp2_with fail
        go_ret
        exact ⟨_, rfl, .inr ⟨g, 0, cap, by rw [List.length_map, HL.out]; rfl, by rw [List.length_map, HL.out]; omega, by unfold maxLen; exact hcm, HOut.out⟩, HKc.out, fun _ h => by cases h; rfl⟩

theorem delFunc_nil (fid cb : Nat) (w : World) : Calls Try.prog 86 #[.slice none 0 0, .func (.func fid) #[] #[ptr cb]] w fun e w' => e = .returned (.slice none 0 0) ∧ w = w' := by
  go_enter Try.func86, Try.ntmps86
  go_wp2_with fail
  refine (indexFunc_zero fid cb 0 none w).mono ?_
  rintro e w' ⟨rfl, rfl⟩
  go_wp2_with fail
  go_ret
  exact ⟨rfl, rfl⟩

/-- DeleteFunc of a slice of the call's own (from block B on). -/
theorem delFunc_any (fid cb B : Nat) (p : Int → Bool) (v : Value) (xs : List Int) (w : World) (hl : xs.length ≤ 1000) (hE : Enters fid) (h0 : w.ownsRow B 3 1 v xs.length (xs.map (Value.int .i64)))
    (ha : ∀ g, B ≤ g → Asks fid (ptr cb) [g] w p xs) :
    Calls Try.prog 86 #[v, .func (.func fid) #[] #[ptr cb]] w fun e w' => ∃ g, B ≤ g ∧ DelPost g (xs.filter fun x => !p x) w e w' := by
  have hh := h0
  obtain ⟨_, h2⟩ := hh
  rcases h2 with ⟨rfl, hn⟩ | ⟨g, cap, cur, rfl, hg, _⟩
  · have : xs = [] := List.length_eq_zero_iff.1 hn
    subst this
    exact (delFunc_nil fid cb w).mono fun _ _ ⟨h1, h2⟩ => ⟨B, Nat.le_refl _, _, h1, .inl ⟨rfl, rfl⟩, by subst h2; exact Keeps.refl _ _, fun _ h => by cases h⟩
  · exact (delFunc_some fid cb g cap p xs w hl hE (owns_mono h0 (Nat.zero_le _)) (ha g hg)).mono fun _ _ h => ⟨g, hg, h⟩

theorem Try.info9 : (Try.prog.info? 9).map (fun i => (i.zero, i.size, i.bytes)) = some (some (.string ByteArray.empty), 1, 16) := by kernel_rfl

/-- What a copy of strings leaves: a slice of the call's own. -/
def ClonePost (c : List ByteArray) (w : World) (e : Ending) (w' : World) : Prop :=
  ∃ g cap, e = .returned (.slice (some ⟨g, 0, none⟩) c.length cap) ∧ w'.ownsRow w.heap.size 9 1 (.slice (some ⟨g, 0, none⟩) c.length cap) c.length (c.map Value.string) ∧ Keeps [] w w'

theorem strs_news {w : World} {g o : Nat} {c : List ByteArray} (h : StrsAt w g o c) : ∀ (j : Nat) (u : Value), (c.map Value.string)[j]? = some u → w.cell? ((⟨g, o, none⟩ : Addr).add j) = some u := fun j u hj => by
  have hjl : j < c.length := by
    have := (List.getElem?_eq_some_iff.1 hj).1
    simpa using this
  have e : (⟨g, o, none⟩ : Addr).add j = ⟨g, o + j, none⟩ := by unfold Addr.add; split <;> simp_all
  rw [List.getElem?_map, List.getElem?_eq_getElem hjl] at hj
  rw [e, h j c[j] (List.getElem?_eq_getElem hjl)]
  simpa using hj

theorem StrsAt.of_owns {w : World} {B g cap : Nat} {c : List ByteArray} (h : w.ownsRow B 9 1 (.slice (some ⟨g, 0, none⟩) c.length cap) c.length (c.map Value.string)) : StrsAt w g 0 c := fun i s hs => by
  have hi := (List.getElem?_eq_some_iff.1 hs).1
  rw [Nat.zero_add, World.ownsRow.cellAt h i (by omega), List.getElem?_map, hs]; rfl

set_option maxRecDepth 100000 in
theorem clone_any (g o cap : Nat) (c : List ByteArray) (w : World) (h1 : 1 ≤ c.length) (hl : c.length ≤ 1000) (hc : StrsAt w g o c) :
    Calls Try.prog 62 #[.slice (some ⟨g, o, none⟩) c.length cap] w (ClonePost c w) := by
  obtain ⟨i0, hi, hz0, hz1, hz2⟩ := info_parts Try.info9
  have hKa : Keeps [] w (w.alloc (.cells #[] 9)) := (Keeps.refl [] w).alloc _
  have HNews := Lib.hid (strs_news (hc.keeps hKa (by simp)))
  have HOne := Lib.hid (show ∀ u ∈ c.map Value.string, u.oneCell' = true from fun u hu => by obtain ⟨x, _, rfl⟩ := List.mem_map.1 hu; rfl)
  have HMade := Lib.hid (owns_made w 9)
  have HKa := Lib.hid hKa; clear hKa
  have H3 := Lib.hid (show 0 + c.length ≤ maxLen from by unfold maxLen; omega)
  have H4 := Lib.hid (show (0 + c.length) * 16 ≤ 140737488355328 from by omega)
  have H5 := Lib.hid (show w.heap.size ≤ (w.alloc (.cells #[] 9)).heap.size from by simp)
  have HL1 := Lib.hid (show (c.map Value.string).length = c.length * 1 from by simp)
  have hnil := fun (u : World) (a : Option Addr) (n c n' c' : Nat) => Lib.run_eql_slice_nil (P := Try.prog) u 44 9 a n c n' c' Try.underlying44
  have HC := Lib.hid hc; clear hc
  go_enter Try.func62, Try.ntmps62
  go_wp2_with (first | (at_builtin; refine wpList_append_own _ rfl _ _ 44 rfl w.heap.size 9 i0 (.string ByteArray.empty) 1 16 Try.underlying44 hi hz0 hz1 hz2 rfl (by decide) _ _ _ rfl HMade.out ⟨g, o, none⟩ c.length cap (c.map Value.string) rfl HL1.out HNews.out HOne.out H3.out H4.out H5.out ?_; intro v' w1 hown' hgrow _; have hown' := Lib.hid hown'; have hgrow := Lib.hid hgrow; obtain ⟨g2, cap2, hv, hg2⟩ := owns_some hown'.out (by omega); rw [hv]))
  have hown2 := hown'.out
  rw [hv, List.nil_append, Nat.zero_add] at hown2
  have hK1 : Keeps [] w w1 := HKa.out.grown hgrow.out (fun j hj => Or.inr (by have hj' : some w.heap.size = some j := hj; cases hj'; exact Nat.le_refl _))
  go_ret
  exact ⟨g2, cap2, by first | rfl | (rw [Nat.zero_add]; rfl), hown2, hK1⟩
end Go.Proofs.Ytffcambjdlkfbaa
