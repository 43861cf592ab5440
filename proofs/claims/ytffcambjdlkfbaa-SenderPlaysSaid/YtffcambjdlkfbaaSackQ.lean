/- What the law SackPlays asks of a map and of its reference in one statement, call by call, while both read as one list. No condition. -/
import Derived.Test.YtffcambjdlkfbaaAwakeA
namespace Go.Proofs.Ytffcambjdlkfbaa
open Go.RowKit

/-- The map at b and the bools at g both read as l, of n; nothing of w0 is turned. -/
def Both (w0 : World) (b g cap n : Nat) (l : List Bool) (w : World) : Prop := l.length = n ∧ n ≤ 256 ∧ BoolsAt w g cap l ∧ MapAt w b l ∧ Keeps [] w0 w

theorem Both.keeps {w0 : World} {b g cap n : Nat} {l : List Bool} {w w' : World} (h : Both w0 b g cap n l w) (k : Keeps [] w w') : Both w0 b g cap n l w' :=
  ⟨h.1, h.2.1, h.2.2.1.keeps k (by simp), h.2.2.2.1.keeps k (by simp), h.2.2.2.2.trans k⟩

theorem Both.drew {w0 : World} {b g cap n : Nat} {l : List Bool} {w : World} (h : Both w0 b g cap n l w) : Both w0 b g cap n l w.drew := h.keeps ((Keeps.refl [] w).drew)

/-- With two cells beside. -/
def Seen (p q : Addr) (N M : Int) (w0 : World) (b g cap n : Nat) (l : List Bool) (w : World) : Prop :=
  w.cell? p = some (.int .i64 N) ∧ w.cell? q = some (.int .i64 M) ∧ Both w0 b g cap n l w
theorem Seen.keeps {p q : Addr} {N M : Int} {w0 : World} {b g cap n : Nat} {l : List Bool} {w w' : World} (h : Seen p q N M w0 b g cap n l w) (k : Keeps [] w w') : Seen p q N M w0 b g cap n l w' :=
  ⟨k.cell (by simp) h.1, k.cell (by simp) h.2.1, h.2.2.keeps k⟩

theorem full_count {l : List Bool} : (baseL l == l.length) = decide ((countL l : Int) = (l.length : Int)) := by
  rw [Bool.eq_iff_iff, beq_iff_eq, decide_eq_true_eq]
  constructor
  · intro h
    have : ∀ k, k ≤ l.length → countL (l.take k) = k := by
      intro k
      induction k with
      | zero => intro _; simp [countL]
      | succ k ih =>
        intro hk
        rw [countL_snoc l k (by omega), ih (by omega), baseL_below (by omega)]
        simp
    have := this l.length (Nat.le_refl _)
    rw [List.take_length] at this
    omega
  · intro h
    have h' : countL l = l.length := by omega
    refine baseL_eq (Nat.le_refl _) (fun j hj => ?_) (Or.inl rfl)
    unfold countL at h'
    rw [at'_get hj]
    have := List.count_eq_length.1 h' l[j] (List.getElem_mem hj)
    exact this.symm

section
variable {p q : Addr} {N M : Int} {w0 : World} {b g cap n : Nat} {l : List Bool} {w : World} (h : w.cell? p = some (.int .i64 N) ∧ w.cell? q = some (.int .i64 M) ∧ Both w0 b g cap n l w)
include h
theorem has25 (i : Int) : Calls Try.prog 14 #[ptr b, .int .i64 i] w fun e w' => e = .returned (.bool (hasL l i)) ∧ w = w' := has_any b l i w h.2.2.2.2.2.1
theorem base25 : Calls Try.prog 15 #[ptr b] w fun e w' => e = .returned (.int .i64 (baseL l)) ∧ w = w' := base_any b l w h.2.2.2.2.2.1
theorem rbase25 : Calls Try.prog 16 #[.slice (some ⟨g, 0, none⟩) n cap] w fun e w' => e = .returned (.int .i64 (baseL l)) ∧ w = w' := by
  obtain ⟨_, _, h3, _, h4, _⟩ := h; subst h3; exact rbase_any g cap l w h4
theorem count25 (C : Int) (hC : (countL l : Int) = C) : Calls Try.prog 17 #[ptr b] w fun e w' => e = .returned (.int .i64 C) ∧ w = w' := by
  subst hC; exact count_any b l w h.2.2.2.2.2.1
theorem rcount25 (C : Int) (hC : (countL l : Int) = C) : Calls Try.prog 18 #[.slice (some ⟨g, 0, none⟩) n cap] w fun e w' => e = .returned (.int .i64 C) ∧ w = w' := by
  subst hC; obtain ⟨_, _, h3, _, h4, _⟩ := h; subst h3; exact rcount_any g cap l w h4
theorem full25 (r : Bool) (hr : (baseL l == l.length) = r) : Calls Try.prog 19 #[ptr b] w fun e w' => e = .returned (.bool r) ∧ (w'.cell? p = some (.int .i64 N) ∧ w'.cell? q = some (.int .i64 M) ∧ Both w0 b g cap n l w') := by
  subst hr
  exact (full_any b l w h.2.2.2.2.2.1).mono fun e w' ⟨h1, n, h2⟩ => ⟨h1, Seen.keeps h (by rw [← h2]; exact Keeps.of_drewN w n)⟩
theorem behind25 (k : Int) : Calls Try.prog 20 #[ptr b, .int .i64 k] w fun e w' => e = .returned (.string ⟨(behindL l (upTo256 k)).toArray⟩) ∧ (w'.cell? p = some (.int .i64 N) ∧ w'.cell? q = some (.int .i64 M) ∧ Both w0 b g cap n l w') :=
  (behind_any b l k w h.2.2.2.2.2.1).mono fun _ _ ⟨h1, h2⟩ => ⟨h1, Seen.keeps h h2⟩
theorem rbehind25 (k : Int) : Calls Try.prog 21 #[.slice (some ⟨g, 0, none⟩) n cap, .int .i64 k] w fun e w' => e = .returned (.string ⟨(behindL l (upTo256 k)).toArray⟩) ∧ (w'.cell? p = some (.int .i64 N) ∧ w'.cell? q = some (.int .i64 M) ∧ Both w0 b g cap n l w') := by
  have hh := h
  obtain ⟨_, _, h3, h2, h4, _⟩ := hh; subst h3
  exact (rbehind_any g cap l k w h4 (by omega)).mono fun e w' ⟨h1, h2⟩ => ⟨h1, Seen.keeps h h2⟩
theorem missing25 (a t : Int) : Calls Try.prog 23 #[ptr b, .int .i64 a, .int .i64 t] w fun e w' => ∃ v, e = .returned v ∧ Reads w' v ((missL l a t).map (Value.int .i64)) ∧ (w'.cell? p = some (.int .i64 N) ∧ w'.cell? q = some (.int .i64 M) ∧ Both w0 b g cap n l w') :=
  (missing_any b l a t w h.2.2.2.2.2.1).mono fun _ _ ⟨v, h1, h2, h3⟩ => ⟨v, h1, Reads.of_owns h2, Seen.keeps h h3⟩
theorem rmissing25 (a t : Int) (v : Value) (xs : List Value) (hv : Reads w v xs) : Calls Try.prog 24 #[.slice (some ⟨g, 0, none⟩) n cap, .int .i64 a, .int .i64 t] w fun e w' =>
    ∃ u, e = .returned u ∧ Reads w' u ((missL l a t).map (Value.int .i64)) ∧ Reads w' v xs ∧ (w'.cell? p = some (.int .i64 N) ∧ w'.cell? q = some (.int .i64 M) ∧ Both w0 b g cap n l w') := by
  have hh := h
  obtain ⟨_, _, h3, h2, h4, _⟩ := hh; subst h3
  exact (rmissing_any g cap l a t w h4 (by omega)).mono fun e w' ⟨v, h1, h2, h3⟩ => ⟨v, h1, Reads.of_owns h2, Reads.keeps hv h3 (by simp), Seen.keeps h h3⟩
theorem same25 (v u : Value) (xs : List Int) (hv : Reads w v (xs.map (Value.int .i64))) (hu : Reads w u (xs.map (Value.int .i64))) : Calls Try.prog 22 #[v, u] w fun e w' => e = .returned (.bool true) ∧ (w'.cell? p = some (.int .i64 N) ∧ w'.cell? q = some (.int .i64 M) ∧ Both w0 b g cap n l w') :=
  (same_yes v u xs w hv hu).mono fun e w' ⟨h1, n, h2⟩ => ⟨h1, Seen.keeps h (by rw [← h2]; exact Keeps.of_drewN w n)⟩
theorem len25 : Calls Try.prog 25 #[ptr b] w fun e w' => e = .returned (.int .i64 n) ∧ w = w' := by
  have hh := h
  obtain ⟨_, _, h3, _, _, h4, _⟩ := hh; subst h3; exact len_any b l w h4
end
end Go.Proofs.Ytffcambjdlkfbaa
