/- The count of a 64-bit word's ones by the library's four masks is the count of its bits that are 1: plain arithmetic. No condition but x < 2^64. -/
import Derived.Test.YtffcambjdlkfbaaPlain
namespace Go.Proofs.Ytffcambjdlkfbaa

/-- A mask that is a byte m, n times. -/
def rep (m : Nat) : Nat → Nat
  | 0 => 0
  | n + 1 => 256 * rep m n + m

theorem and_cons (a b r s : Nat) (hr : r < 256) (hs : s < 256) : (256 * a + r) &&& (256 * b + s) = 256 * (a &&& b) + (r &&& s) := by
  have hrs : r &&& s < 2 ^ 8 := Nat.lt_of_le_of_lt Nat.and_le_left hr
  refine Nat.eq_of_testBit_eq fun i => ?_
  rw [Nat.testBit_and]
  have e : ∀ a r : Nat, r < 2 ^ 8 → (256 * a + r).testBit i = if i < 8 then r.testBit i else a.testBit (i - 8) := by
    intro a r hr
    have := Nat.testBit_two_pow_mul_add (i := 8) (b := r) a hr i
    simpa using this
  rw [e a r hr, e b s hs, e (a &&& b) (r &&& s) hrs]
  split <;> rw [Nat.testBit_and]

/-- A step 'shift by k, mask, add to the masked': what it does to a byte. -/
def stepB (d m c : Nat) : Nat := (c / d &&& m) + (c &&& m)
def stepW (d m : Nat) (n x : Nat) : Nat := (x / d &&& rep m n) + (x &&& rep m n)

/-- d divides 256 and the mask m hides what comes over from the byte above: the step goes byte by byte. -/
theorem stepW_cons (d e m : Nat) (hd : 256 = d * e) (hd0 : 0 < d) (hm : m < 256) (hide : ∀ u, u < d → ∀ c, c < 256 → (e * u + c / d) &&& m = c / d &&& m) (n a c : Nat) (hc : c < 256) :
    stepW d m (n + 1) (256 * a + c) = 256 * stepW d m n a + stepB d m c := by
  unfold stepW stepB
  have he : 0 < e := Nat.pos_of_ne_zero (fun h => by subst h; omega)
  have h1 : (256 * a + c) / d = 256 * (a / d) + (e * (a % d) + c / d) := by
    have ha : a = d * (a / d) + a % d := (Nat.div_add_mod a d).symm
    have h2 : 256 * a + c = d * (256 * (a / d) + e * (a % d)) + c := by
      calc 256 * a + c = 256 * (d * (a / d) + a % d) + c := by rw [← ha]
        _ = d * (256 * (a / d)) + (d * e) * (a % d) + c := by rw [← hd, Nat.mul_add, ← Nat.mul_assoc, ← Nat.mul_assoc, Nat.mul_comm 256 d]
        _ = d * (256 * (a / d) + e * (a % d)) + c := by rw [Nat.mul_add, Nat.mul_assoc]
    rw [h2, Nat.mul_add_div hd0]
    omega
  have hu : a % d < d := Nat.mod_lt _ hd0
  have hlt : e * (a % d) + c / d < 256 := by
    have h3 : c / d < e := by
      rw [Nat.div_lt_iff_lt_mul hd0, Nat.mul_comm, ← hd]; exact hc
    have h4 : e * (a % d) + e ≤ e * d := by
      rw [← Nat.mul_succ]; exact Nat.mul_le_mul_left e hu
    rw [Nat.mul_comm e d, ← hd] at h4
    omega
  rw [h1, rep, and_cons _ _ _ _ hlt hm, and_cons _ _ _ _ hc hm, hide _ hu _ hc]
  omega

theorem hide1 : ∀ u, u < 2 → ∀ c, c < 256 → (128 * u + c / 2) &&& 85 = c / 2 &&& 85 := by decide +kernel
theorem hide2 : ∀ u, u < 4 → ∀ c, c < 256 → (64 * u + c / 4) &&& 51 = c / 4 &&& 51 := by decide +kernel

/-- The third step masks behind the sum. -/
def step3B (c : Nat) : Nat := (c / 16 + c) &&& 15
def step3W (n x : Nat) : Nat := (x / 16 + x) &&& rep 15 n

/-- The bytes of a word. -/
def bytesSum : List Nat → Nat
  | [] => 0
  | c :: r => 256 * bytesSum r + c

theorem stepW_bytes (d e m : Nat) (hd : 256 = d * e) (hd0 : 0 < d) (hm : m < 256) (hide : ∀ u, u < d → ∀ c, c < 256 → (e * u + c / d) &&& m = c / d &&& m) :
    ∀ cs : List Nat, (∀ c ∈ cs, c < 256) → stepW d m cs.length (bytesSum cs) = bytesSum (cs.map (stepB d m)) := by
  intro cs
  induction cs with
  | nil => intro _; simp [stepW, bytesSum, rep]
  | cons c r ih =>
    intro h
    rw [List.length_cons, bytesSum, stepW_cons d e m hd hd0 hm hide _ _ _ (h c (by simp)), ih (fun x hx => h x (by simp [hx]))]
    rfl

theorem step3W_bytes : ∀ cs : List Nat, (∀ c ∈ cs, c / 16 ≤ 4 ∧ c % 16 ≤ 4) → step3W cs.length (bytesSum cs) = bytesSum (cs.map step3B) := by
  intro cs
  induction cs with
  | nil => intro _; rfl
  | cons c r ih =>
    intro h
    have hc := h c (by simp)
    have ih' := ih fun x hx => h x (by simp [hx])
    rw [List.length_cons, bytesSum, List.map_cons, bytesSum, ← ih']
    unfold step3W step3B
    -- what comes over from the byte above lies above the mask's four bits
    have e : (256 * bytesSum r + c) / 16 + (256 * bytesSum r + c) = 256 * (bytesSum r / 16 + bytesSum r) + (16 * (bytesSum r % 16) + c / 16 + c) := by omega
    have hr4 : bytesSum r % 16 ≤ 4 := by
      cases r with
      | nil => simp [bytesSum]
      | cons c2 r2 => have := (h c2 (by simp)).2; simp only [bytesSum]; omega
    have hlt : 16 * (bytesSum r % 16) + c / 16 + c < 256 := by omega
    rw [e, rep, and_cons _ _ _ _ hlt (by omega)]
    congr 1
    have m15 : ∀ x : Nat, x &&& 15 = x % 16 := fun x => Nat.and_two_pow_sub_one_eq_mod x 4
    rw [m15, m15]
    omega

/-- The ones of a byte. -/
def pop8 (c : Nat) : Nat := ((List.range 8).filter fun k => c.testBit k).length

theorem byte_all : ∀ c, c < 256 → stepB 2 85 c < 256 ∧ stepB 4 51 (stepB 2 85 c) < 256 ∧ (stepB 4 51 (stepB 2 85 c)) / 16 ≤ 4 ∧ (stepB 4 51 (stepB 2 85 c)) % 16 ≤ 4 ∧ step3B (stepB 4 51 (stepB 2 85 c)) = pop8 c ∧ pop8 c ≤ 8 := by decide +kernel

/-- A word's ones are its bytes' ones. -/
def popN (n x : Nat) : Nat := ((List.range (8 * n)).filter fun k => x.testBit k).length

theorem popN_cons (n a c : Nat) (hc : c < 256) : popN (n + 1) (256 * a + c) = pop8 c + popN n a := by
  unfold popN pop8
  have tb : ∀ i, (256 * a + c).testBit i = if i < 8 then c.testBit i else a.testBit (i - 8) := fun i => by
    have := Nat.testBit_two_pow_mul_add (i := 8) (b := c) a hc i
    simpa using this
  rw [show 8 * (n + 1) = 8 + 8 * n from by omega, List.range_add, List.filter_append, List.length_append]
  congr 1
  · congr 1
    refine List.filter_congr fun k hk => ?_
    have : k < 8 := by simpa using hk
    rw [tb, if_pos this]
  · rw [List.filter_map, List.length_map]
    congr 1
    refine List.filter_congr fun k _ => ?_
    show (256 * a + c).testBit (8 + k) = a.testBit k
    rw [tb, if_neg (by omega), Nat.add_sub_cancel_left]

theorem popN_bytes : ∀ cs : List Nat, (∀ c ∈ cs, c < 256) → popN cs.length (bytesSum cs) = (cs.map pop8).sum := by
  intro cs
  induction cs with
  | nil => intro _; rfl
  | cons c r ih =>
    intro h
    rw [List.length_cons, bytesSum, popN_cons _ _ _ (h c (by simp)), ih (fun x hx => h x (by simp [hx]))]
    simp

/-- The sum of eight small bytes by three shifted sums: the last seven bits. -/
theorem fold_sum (d0 d1 d2 d3 d4 d5 d6 d7 : Nat) (h0 : d0 ≤ 8) (h1 : d1 ≤ 8) (h2 : d2 ≤ 8) (h3 : d3 ≤ 8) (h4 : d4 ≤ 8) (h5 : d5 ≤ 8) (h6 : d6 ≤ 8) (h7 : d7 ≤ 8) :
    ∃ y1 y2 y3 : Nat, y1 = bytesSum [d0, d1, d2, d3, d4, d5, d6, d7] + bytesSum [d0, d1, d2, d3, d4, d5, d6, d7] / 256 ∧ y2 = y1 + y1 / 65536 ∧ y3 = y2 + y2 / 4294967296 ∧ y3 < 9223372036854775808 ∧ y3 % 128 = d0 + (d1 + (d2 + (d3 + (d4 + (d5 + (d6 + (d7 + 0))))))) := by
  refine ⟨_, _, _, rfl, rfl, rfl, ?_⟩
  simp only [bytesSum]
  have hA : ∃ A7 A6 A5 A4 A3 A2 A1 : Nat, A7 = 256 * 0 + d7 ∧ A6 = 256 * A7 + d6 ∧ A5 = 256 * A6 + d5 ∧ A4 = 256 * A5 + d4 ∧ A3 = 256 * A4 + d3 ∧ A2 = 256 * A3 + d2 ∧ A1 = 256 * A2 + d1 := ⟨_, _, _, _, _, _, _, rfl, rfl, rfl, rfl, rfl, rfl, rfl⟩
  obtain ⟨A7, A6, A5, A4, A3, A2, A1, g7, g6, g5, g4, g3, g2, g1⟩ := hA
  rw [← g7, ← g6, ← g5, ← g4, ← g3, ← g2, ← g1]
  have e1 : (256 * A1 + d0) / 256 = A1 := by clear g1 g2 g3 g4 g5 g6 g7; omega
  rw [e1]
  have e2 : (256 * A1 + d0 + A1) / 65536 = A2 + A3 := by clear g3 g4 g5 g6 g7; subst g1; subst g2; omega
  rw [e2]
  have e3 : (256 * A1 + d0 + A1 + (A2 + A3)) / 4294967296 = A4 + A5 + A6 + A7 := by
    have k1 : 256 * A1 + d0 = 4294967296 * A4 + (16777216 * d3 + 65536 * d2 + 256 * d1 + d0) := by subst g1 g2 g3; omega
    have k2 : A1 = 4294967296 * A5 + (16777216 * d4 + 65536 * d3 + 256 * d2 + d1) := by subst g1 g2 g3 g4; omega
    have k3 : A2 = 4294967296 * A6 + (16777216 * d5 + 65536 * d4 + 256 * d3 + d2) := by subst g2 g3 g4 g5; omega
    have k4 : A3 = 4294967296 * A7 + (16777216 * d6 + 65536 * d5 + 256 * d4 + d3) := by subst g3 g4 g5 g6; omega
    rw [k1, k3, k4]
    clear k1 k3 k4 g1 g2 g3 g4 g5 g6 g7
    omega
  rw [e3]
  have q7 : A7 = d7 := by omega
  subst q7
  have hb : A1 < 72057594037927936 ∧ A2 < 281474976710656 ∧ A3 < 1099511627776 ∧ A4 < 4294967296 ∧ A5 < 16777216 ∧ A6 < 65536 := by
    clear e1 e2 e3
    have r6 : A6 ≤ 2056 := by omega
    have r5 : A5 ≤ 526344 := by omega
    have r4 : A4 ≤ 134744072 := by omega
    have r3 : A3 ≤ 34494482440 := by omega
    have r2 : A2 ≤ 8830587504648 := by omega
    refine ⟨by omega, by omega, by omega, by omega, by omega, by omega⟩
  clear e1 e2 e3 g7
  refine ⟨by omega, ?_⟩
  have t : 256 * A1 + d0 + A1 + (A2 + A3) + (A4 + A5 + A6 + A7) = 256 * (A1 + A2 + A3 + A4 + A5 + A6 + A7) + (d0 + d1 + d2 + d3 + d4 + d5 + d6 + A7) := by omega
  rw [t]
  clear t g1 g2 g3 g4 g5 g6 hb
  omega

def M0 : Nat := 6148914691236517205
def M1 : Nat := 3689348814741910323
def M2 : Nat := 1085102592571150095

/-- What the library reckons, without its wraps (none happens). -/
theorem ones_eq (x : Nat) (hx : x < 18446744073709551616) : ∃ x1 x2 x3 y1 y2 y3 : Nat,
    x1 = (x / 2 &&& M0) + (x &&& M0) ∧ x2 = (x1 / 4 &&& M1) + (x1 &&& M1) ∧ x3 = ((x2 / 16 + x2) &&& M2) ∧ y1 = x3 + x3 / 256 ∧ y2 = y1 + y1 / 65536 ∧ y3 = y2 + y2 / 4294967296 ∧
    x1 < 18446744073709551616 ∧ x2 / 16 + x2 < 18446744073709551616 ∧ y3 < 9223372036854775808 ∧ y3 % 128 = pop64 x := by
  refine ⟨_, _, _, _, _, _, rfl, rfl, rfl, rfl, rfl, rfl, ?_⟩
  obtain ⟨c0, c1, c2, c3, c4, c5, c6, c7, h0, h1, h2, h3, h4, h5, h6, h7, rfl⟩ : ∃ c0 c1 c2 c3 c4 c5 c6 c7 : Nat, c0 < 256 ∧ c1 < 256 ∧ c2 < 256 ∧ c3 < 256 ∧ c4 < 256 ∧ c5 < 256 ∧ c6 < 256 ∧ c7 < 256 ∧ x = bytesSum [c0, c1, c2, c3, c4, c5, c6, c7] :=
    ⟨x % 256, x / 256 % 256, x / 65536 % 256, x / 16777216 % 256, x / 4294967296 % 256, x / 1099511627776 % 256, x / 281474976710656 % 256, x / 72057594037927936, by omega, by omega, by omega, by omega, by omega, by omega, by omega, by omega, by
      simp only [bytesSum]; omega⟩
  have hall : ∀ c ∈ [c0, c1, c2, c3, c4, c5, c6, c7], c < 256 := by
    intro c hc; simp at hc; omega
  have m0 : M0 = rep 85 8 := rfl
  have m1 : M1 = rep 51 8 := rfl
  have m2 : M2 = rep 15 8 := rfl
  have s1 : (bytesSum [c0, c1, c2, c3, c4, c5, c6, c7] / 2 &&& M0) + (bytesSum [c0, c1, c2, c3, c4, c5, c6, c7] &&& M0) = bytesSum ([c0, c1, c2, c3, c4, c5, c6, c7].map (stepB 2 85)) := by
    rw [m0]; exact stepW_bytes 2 128 85 rfl (by omega) (by omega) hide1 _ hall
  rw [s1]
  have s2 : (bytesSum ([c0, c1, c2, c3, c4, c5, c6, c7].map (stepB 2 85)) / 4 &&& M1) + (bytesSum ([c0, c1, c2, c3, c4, c5, c6, c7].map (stepB 2 85)) &&& M1) = bytesSum (([c0, c1, c2, c3, c4, c5, c6, c7].map (stepB 2 85)).map (stepB 4 51)) := by
    rw [m1]
    refine stepW_bytes 4 64 51 rfl (by omega) (by omega) hide2 ([c0, c1, c2, c3, c4, c5, c6, c7].map (stepB 2 85)) ?_
    intro c hc
    obtain ⟨d, hd, rfl⟩ := List.mem_map.1 hc
    exact (byte_all d (hall d hd)).1
  rw [s2]
  have s3 : (bytesSum (([c0, c1, c2, c3, c4, c5, c6, c7].map (stepB 2 85)).map (stepB 4 51)) / 16 + bytesSum (([c0, c1, c2, c3, c4, c5, c6, c7].map (stepB 2 85)).map (stepB 4 51)) &&& M2) = bytesSum ([c0, c1, c2, c3, c4, c5, c6, c7].map pop8) := by
    have := step3W_bytes (([c0, c1, c2, c3, c4, c5, c6, c7].map (stepB 2 85)).map (stepB 4 51)) (by
      intro c hc
      rw [List.map_map] at hc
      obtain ⟨d, hd, rfl⟩ := List.mem_map.1 hc
      have := byte_all d (hall d hd)
      exact ⟨this.2.2.1, this.2.2.2.1⟩)
    rw [m2]
    refine Eq.trans this ?_
    rw [List.map_map, List.map_map]
    congr 1
    refine List.map_congr_left fun d hd => (byte_all d (hall d hd)).2.2.2.2.1
  rw [s3]
  have e : pop64 (bytesSum [c0, c1, c2, c3, c4, c5, c6, c7]) = ([c0, c1, c2, c3, c4, c5, c6, c7].map pop8).sum := popN_bytes _ hall
  rw [e]
  have t0 := byte_all c0 h0
  have t1 := byte_all c1 h1
  have t2 := byte_all c2 h2
  have t3 := byte_all c3 h3
  have t4 := byte_all c4 h4
  have t5 := byte_all c5 h5
  have t6 := byte_all c6 h6
  have t7 := byte_all c7 h7
  simp only [List.map_cons, List.map_nil, bytesSum, List.sum_cons, List.sum_nil]
  have q0 := t0.2.2.2.2.2
  have q1 := t1.2.2.2.2.2
  have q2 := t2.2.2.2.2.2
  have q3 := t3.2.2.2.2.2
  have q4 := t4.2.2.2.2.2
  have q5 := t5.2.2.2.2.2
  have q6 := t6.2.2.2.2.2
  have q7 := t7.2.2.2.2.2
  obtain ⟨y1, y2, y3, f1, f2, f3, f4, f5⟩ := fold_sum _ _ _ _ _ _ _ _ q0 q1 q2 q3 q4 q5 q6 q7
  simp only [bytesSum] at f1
  rw [← f1, ← f2, ← f3]
  refine ⟨?_, ?_, f4, f5⟩
  · have b0 := t0.1
    have b1 := t1.1
    have b2 := t2.1
    have b3 := t3.1
    have b4 := t4.1
    have b5 := t5.1
    have b6 := t6.1
    have b7 := t7.1
    clear s1 s2 s3 e t0 t1 t2 t3 t4 t5 t6 t7 m0 m1 m2 f1 f2 f3 f4 f5
    omega
  · have b0 := t0.2.2.1
    have b1 := t1.2.2.1
    have b2 := t2.2.2.1
    have b3 := t3.2.2.1
    have b4 := t4.2.2.1
    have b5 := t5.2.2.1
    have b6 := t6.2.2.1
    have b7 := t7.2.2.1
    have a0 := t0.2.1
    have a1 := t1.2.1
    have a2 := t2.2.1
    have a3 := t3.2.1
    have a4 := t4.2.1
    have a5 := t5.2.1
    have a6 := t6.2.1
    have a7 := t7.2.1
    clear s1 s2 s3 e t0 t1 t2 t3 t4 t5 t6 t7 m0 m1 m2 f1 f2 f3 f4 f5
    generalize stepB 4 51 (stepB 2 85 c0) = d0 at *
    generalize stepB 4 51 (stepB 2 85 c1) = d1 at *
    generalize stepB 4 51 (stepB 2 85 c2) = d2 at *
    generalize stepB 4 51 (stepB 2 85 c3) = d3 at *
    generalize stepB 4 51 (stepB 2 85 c4) = d4 at *
    generalize stepB 4 51 (stepB 2 85 c5) = d5 at *
    generalize stepB 4 51 (stepB 2 85 c6) = d6 at *
    generalize stepB 4 51 (stepB 2 85 c7) = d7 at *
    omega
end Go.Proofs.Ytffcambjdlkfbaa
