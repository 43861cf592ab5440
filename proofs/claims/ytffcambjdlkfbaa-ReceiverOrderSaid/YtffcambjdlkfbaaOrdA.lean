/- Chunks in whatever order: the plain law, and the closure that takes one. -/
import Derived.Test.YtffcambjdlkfbaaRecS
namespace Go.Proofs.Ytffcambjdlkfbaa
open Go.RowKit

theorem count_set (l : List Bool) : ∀ i, i < l.length → at' l i = false → countL (l.set i true) = countL l + 1 := by
  induction l with
  | nil => intro i h; simp at h
  | cons x l ih =>
    intro i h h0
    cases i with
    | zero =>
      have : x = false := by simpa [at'] using h0
      subst this
      simp [countL]
    | succ i =>
      have := ih i (by simpa using h) (by simpa [at'] using h0)
      unfold countL at this ⊢
      rw [List.set_cons_succ, List.count_cons, List.count_cons, this]
      omega

/-- Of t takes of the chunks c: those that are there are theirs; the others were told to be there. -/
structure Ord (c : List ByteArray) (t : Nat) (r : Rcv) : Prop where
  good : r.Good
  ses : r.ses = 1
  epo : r.epo = 2
  len : r.l.length = c.length
  same : ∀ j, at' r.l j = true → r.c.getD j noText = c.getD j noText
  sum : r.d.getD 9 0 + (countL r.l : Int) = (t : Int)

def ordF (c : List ByteArray) (i : Nat) : Frm := ⟨1, 1, 2, i, c.length, c.getD i noText⟩

section
variable {c : List ByteArray} {t : Nat} {r : Rcv}
theorem ord_wrong (h : Ord c t r) (hn : c.length ≤ 50) (hc : ∀ j, (c.getD j noText).size ≤ 1000) (i : Nat) (hi : i < c.length) : wrongE r (ordF c i) = if at' r.l i = true then 9 else 0 := by
  have hs := hc i
  unfold wrongE ordF
  dsimp only
  rw [h.ses, h.epo, h.len]
  rw [if_neg (by simp), if_neg (by unfold Frm.Right Ytffcambjdlkfbaa.Right; dsimp only; rw [Decidable.not_not]; omega), if_neg (by simp), if_neg (by simp), if_neg (by simp), if_neg (by omega), if_neg (by omega), Int.toNat_natCast]

theorem ord_take (h : Ord c t r) (hn : c.length ≤ 50) (hc : ∀ j, (c.getD j noText).size ≤ 1000) (i : Nat) (hi : i < c.length) :
    Ord c (t + 1) (r.take (ordF c i)) ∧ at' (r.take (ordF c i)).l i = true ∧ ∀ j, at' r.l j = true → at' (r.take (ordF c i)).l j = true := by
  have hil : i < r.l.length := by rw [h.len]; exact hi
  have hw := ord_wrong h hn hc i hi
  have hg := take_good h.good (ordF c i)
  by_cases hb : at' r.l i = true
  · rw [if_pos hb] at hw
    have e : r.take (ordF c i) = r.drop 9 := by unfold Rcv.take; rw [hw, if_neg (by decide)]
    rw [e] at hg ⊢
    refine ⟨⟨hg, h.ses, h.epo, h.len, h.same, ?_⟩, hb, fun j hj => hj⟩
    have h9 : (r.drop 9).d.getD 9 0 = r.d.getD 9 0 + 1 := by
      show (r.d.set 9 (r.d.getD 9 0 + 1)).getD 9 0 = _
      rw [getD_setI _ _ _ _ (by rw [h.good.dlen]; decide), if_pos rfl]
    have hs := h.sum
    rw [h9]
    show r.d.getD 9 0 + 1 + (countL r.l : Int) = _
    omega
  · have hb0 : at' r.l i = false := by simpa using hb
    rw [if_neg hb] at hw
    have e : r.take (ordF c i) = r.put i (c.getD i noText) := by
      unfold Rcv.take; rw [hw, if_pos rfl]; unfold ordF; dsimp only; rw [Int.toNat_natCast]
    rw [e] at hg ⊢
    refine ⟨⟨hg, h.ses, h.epo, by simpa [Rcv.put] using h.len, fun j hj => ?_, ?_⟩, ?_, fun j hj => ?_⟩
    · show (r.c.set i (c.getD i noText)).getD j noText = _
      rw [getD_set' _ _ _ _ (by rw [h.good.len]; exact hil)]
      have hj' : at' (r.l.set i true) j = true := hj
      rw [at'_set' _ _ _ hil] at hj'
      by_cases e : j = i
      · rw [if_pos e, e]
      · rw [if_neg e] at hj' ⊢; exact h.same j hj'
    · have hs := h.sum
      show r.d.getD 9 0 + (countL (r.l.set i true) : Int) = _
      rw [count_set r.l i hil hb0]
      omega
    · show at' (r.l.set i true) i = true
      rw [at'_set' _ _ _ hil, if_pos rfl]
    · show at' (r.l.set i true) j = true
      rw [at'_set' _ _ _ hil]; split
      · rfl
      · exact hj

theorem ord_new (c : List ByteArray) (h1 : 1 ≤ c.length) (h2 : c.length ≤ 50) : Ord c 0 (newR 1 2 c.length) := by
  refine ⟨newR_good 1 2 _ (by decide) (by decide) h1 (by omega), rfl, rfl, by simp [newR], fun j hj => ?_, ?_⟩
  · have : at' (List.replicate c.length false) j = true := hj
    rw [at'_replicate] at this; cases this
  · show (List.replicate 20 (0 : Int)).getD 9 0 + (countL (List.replicate c.length false) : Int) = _
    have : countL (List.replicate c.length false) = 0 := by unfold countL; rw [List.count_replicate]; rfl
    rw [this]; rfl

/-- All are there. -/
theorem ord_end (h : Ord c t r) (hall : ∀ j, j < c.length → at' r.l j = true) : (baseL r.l == r.l.length) = true ∧ countL r.l = c.length ∧ r.d.getD 9 0 = (t : Int) - c.length ∧ dataS r = mkB (joinC c c.length) := by
  have hb : baseL r.l = r.l.length := baseL_eq (Nat.le_refl _) (fun j hj => hall j (by rw [← h.len]; exact hj)) (Or.inl rfl)
  have hb2 : (baseL r.l == r.l.length) = true := by rw [hb]; simp
  have hcnt : countL r.l = c.length := by
    rw [← h.len]
    unfold countL
    rw [List.count_eq_length]
    intro x hx
    obtain ⟨j, hj, rfl⟩ := List.getElem_of_mem hx
    have := hall j (by rw [← h.len]; exact hj)
    rw [at'_get hj] at this
    exact this.symm
  have hc : r.c = c := by
    apply List.ext_getElem (by rw [h.good.len, h.len])
    intro j h1 h2
    have := h.same j (hall j h2)
    rw [List.getD_eq_getElem?_getD, List.getD_eq_getElem?_getD, List.getElem?_eq_getElem h1, List.getElem?_eq_getElem h2] at this
    exact this
  refine ⟨hb2, hcnt, by have := h.sum; omega, ?_⟩
  unfold dataS
  rw [if_pos hb2, hc, h.len]
end

/-- The variables that the closure holds: the receiver, the number of chunks, the chunks. -/
structure OrdEnv (w : World) (rv nv cv b : Nat) (a : Option Addr) (n cap : Nat) : Prop where
  er : w.cell? ⟨rv, 0, none⟩ = some (ptr b)
  en : w.cell? ⟨nv, 0, none⟩ = some (.int .i64 n)
  ec : w.cell? ⟨cv, 0, none⟩ = some (.slice a n cap)

theorem OrdEnv.keeps {w w' : World} {rv nv cv b : Nat} {a : Option Addr} {n cap : Nat} {S : List Nat} (h : OrdEnv w rv nv cv b a n cap) (k : Keeps S w w') (h1 : rv ∉ S) (h2 : nv ∉ S) (h3 : cv ∉ S) : OrdEnv w' rv nv cv b a n cap :=
  ⟨k.cell h1 h.er, k.cell h2 h.en, k.cell h3 h.ec⟩

theorem take_frm (b m g cap k t : Nat) (r : Rcv) (x0 x1 x2 x3 x4 : Int) (s : ByteArray) (w : World) (h : RcvAt w b m g cap k t r) (ht : t ≤ 1000000) (R : Rcv) (hR : r.take ⟨x0, x1, x2, x3, x4, s⟩ = R) :
    Calls Try.prog 50 #[ptr b, .agg #[.int .i64 x0, .int .i64 x1, .int .i64 x2, .int .i64 x3, .int .i64 x4, .string s]] w fun e w' => (∃ E, e = .returned (.int .i64 E)) ∧ RcvAt w' b m g cap k (t + 1) R ∧ Keeps [m, g, k] w w' :=
  (take50 b m g cap k t r ⟨x0, x1, x2, x3, x4, s⟩ w h ht _ R rfl hR).mono fun _ _ ⟨h1, h2, h3⟩ => ⟨⟨_, h1⟩, h2, h3⟩

set_option maxRecDepth 100000 in
set_option maxHeartbeats 4000000 in
theorem take58 (b m g cap k t : Nat) (r : Rcv) (c : List ByteArray) (rv nv cv gch o capc i : Nat) (w : World) (h : RcvAt w b m g cap k t r) (ht : t ≤ 100000) (he : OrdEnv w rv nv cv b (some ⟨gch, o, none⟩) c.length capc) (hi : i < c.length)
    (hcell : w.cell? ⟨gch, o + i, none⟩ = some (.string (c.getD i noText))) (hn1 : rv ∉ [m, g, k]) (hn2 : nv ∉ [m, g, k]) (hn3 : cv ∉ [m, g, k]) (hn4 : gch ∉ [m, g, k]) (R : Rcv) (hR : r.take (ordF c i) = R) :
    Calls Try.prog 58 #[.int .i64 i, ptr rv, ptr nv, ptr cv] w fun e w' => e = .returned (.tuple #[]) ∧ RcvAt w' b m g cap k (t + 1) R ∧ Keeps [m, g, k] w w' := by
  have hS0 := Lib.hid (show w.drew.cell? ⟨rv, 0, none⟩ = some (ptr b) ∧ w.drew.cell? ⟨nv, 0, none⟩ = some (.int .i64 c.length) ∧ w.drew.cell? ⟨cv, 0, none⟩ = some (.slice (some ⟨gch, o, none⟩) c.length capc) ∧ w.drew.cell? ⟨gch, o + i, none⟩ = some (.string (c.getD i noText)) from ⟨he.er, he.en, he.ec, hcell⟩)
  have H := Lib.hid h.drew
  have HR := Lib.hid hR
  have i2 : (i : Int) < (c.length : Int) := by omega
  unfold ordF at HR
  clear h he hcell hR
  generalize hX : c.getD i noText = X at *
  clear hX
  go_enter Try.func58, Try.ntmps58
  go_wp2_with fail
  go_region_held3 (fun w' => w'.cell? ⟨rv, 0, none⟩ = some (ptr b) ∧ w'.cell? ⟨nv, 0, none⟩ = some (.int .i64 c.length) ∧ w'.cell? ⟨cv, 0, none⟩ = some (.slice (some ⟨gch, o, none⟩) c.length capc) ∧ w'.cell? ⟨gch, o + i, none⟩ = some (.string X))
    (first | with_reducible exact hS0.out | with_reducible exact hSa.out)
    (first
      | (go_at_call 50; refine (take_frm b m g cap k t r _ _ _ _ _ _ _ H.out (by omega) R HR.out).mono ?_; rintro e w1 ⟨⟨E, rfl⟩, p1, k1⟩; have hSa := Lib.hid (And.intro (k1.cell hn1 hS0.out.1) (And.intro (k1.cell hn2 hS0.out.2.1) (And.intro (k1.cell hn3 hS0.out.2.2.1) (k1.cell hn4 hS0.out.2.2.2)))); have P1 := Lib.hid p1; have K1 := Lib.hid k1; clear p1 k1))
  go_wp2_with fail
  go_end0
  exact ⟨rfl, P1.out, ((Keeps.refl _ w).drew).trans K1.out⟩
end Go.Proofs.Ytffcambjdlkfbaa
