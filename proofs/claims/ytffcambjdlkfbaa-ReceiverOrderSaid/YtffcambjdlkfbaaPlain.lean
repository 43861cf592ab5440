/- Plain laws on lists of bools, on words' bits and on bytes, with no program in sight: what a map of chunks and its reference compute. No condition. -/
namespace Go.Proofs.Ytffcambjdlkfbaa

/-- Bit i of a list of bools. -/
def at' (l : List Bool) (i : Nat) : Bool := l.getD i false

theorem at'_lt {l : List Bool} {i : Nat} (h : at' l i = true) : i < l.length := by
  unfold at' at h
  rcases Nat.lt_or_ge i l.length with h' | h'
  · exact h'
  · rw [List.getD_eq_getElem?_getD, List.getElem?_eq_none h'] at h; simp at h

theorem at'_get {l : List Bool} {i : Nat} (h : i < l.length) : at' l i = l[i] := by
  unfold at'; rw [List.getD_eq_getElem?_getD, List.getElem?_eq_getElem h]; rfl

theorem at'_set (l : List Bool) (i j : Nat) (b : Bool) (hi : i < l.length) : at' (l.set i b) j = if j = i then b else at' l j := by
  unfold at'
  rw [List.getD_eq_getElem?_getD, List.getElem?_set, List.getD_eq_getElem?_getD]
  by_cases h : i = j
  · subst h; simp [hi]
  · rw [if_neg h, if_neg (fun e => h e.symm)]

/-- The first one that is not there. -/
def baseL (l : List Bool) : Nat := l.findIdx fun x => !x

theorem baseL_le (l : List Bool) : baseL l ≤ l.length := List.findIdx_le_length

theorem baseL_eq {l : List Bool} {k : Nat} (hk : k ≤ l.length) (h : ∀ j, j < k → at' l j = true) (he : k = l.length ∨ at' l k = false) : baseL l = k := by
  unfold baseL
  rcases Nat.lt_or_ge k l.length with hl | hl
  · rw [List.findIdx_eq hl]
    have h2 : at' l k = false := by rcases he with he | he; omega; exact he
    refine ⟨by rw [at'_get hl] at h2; simp [h2], fun j hj => ?_⟩
    have := h j hj
    rw [at'_get (by omega)] at this
    simp [this]
  · obtain rfl : k = l.length := by omega
    have := List.findIdx_eq_length (p := fun x : Bool => !x) (xs := l)
    rw [this]
    intro x hx
    obtain ⟨i, hi, rfl⟩ := List.mem_iff_getElem.1 hx
    have := h i hi
    rw [at'_get hi] at this
    simp [this]

theorem baseL_below {l : List Bool} {j : Nat} (h : j < baseL l) : at' l j = true := by
  have h2 := baseL_le l
  rw [at'_get (by omega)]
  have := List.not_of_lt_findIdx (p := fun x : Bool => !x) (xs := l) h
  simpa using this

theorem baseL_stop (l : List Bool) : baseL l = l.length ∨ at' l (baseL l) = false := by
  rcases Nat.lt_or_ge (baseL l) l.length with h | h
  · right
    rw [at'_get h]
    have := List.findIdx_getElem (p := fun x : Bool => !x) (xs := l) (w := h)
    generalize hx : l[baseL l] = x
    have h2 : (!l[baseL l]) = true := this
    rw [hx] at h2
    simpa using h2
  · left; have := baseL_le l; omega

/-- How many are there. -/
def countL (l : List Bool) : Nat := l.count true

theorem take_succ_at (l : List Bool) (k : Nat) (hk : k < l.length) : l.take (k + 1) = l.take k ++ [at' l k] := by
  rw [List.take_succ_eq_append_getElem hk, at'_get hk]

theorem countL_snoc (l : List Bool) (k : Nat) (hk : k < l.length) : countL (l.take (k + 1)) = countL (l.take k) + if at' l k = true then 1 else 0 := by
  unfold countL
  rw [take_succ_at l k hk, List.count_append]
  cases at' l k <;> simp

theorem countL_le (l : List Bool) : countL l ≤ l.length := List.count_le_length

theorem countL_range (l : List Bool) (n : Nat) (h : l.length ≤ n) : countL l = ((List.range n).filter fun i => at' l i).length := by
  have key : ∀ k, k ≤ n → countL (l.take k) = ((List.range k).filter fun i => at' l i).length := by
    intro k
    induction k with
    | zero => intro _; simp [countL]
    | succ k ih =>
      intro hk
      rw [List.range_succ, List.filter_append, List.length_append, ← ih (by omega)]
      rcases Nat.lt_or_ge k l.length with hl | hl
      · rw [countL_snoc l k hl]
        cases e : at' l k <;> simp [e]
      · rw [List.take_of_length_le (by omega), List.take_of_length_le (by omega)]
        have : at' l k = false := by
          cases e : at' l k with
          | false => rfl
          | true => have := at'_lt e; omega
        simp [this]
  have := key n (Nat.le_refl _)
  rwa [List.take_of_length_le h] at this

/-- How many of a word's 64 bits are 1. -/
def pop64 (x : Nat) : Nat := ((List.range 64).filter fun k => x.testBit k).length

theorem range_split (a b : Nat) : List.range (a + b) = List.range a ++ (List.range b).map (a + ·) := by
  rw [List.range_add]

theorem count_words (l : List Bool) (X : Nat → Nat) (hl : l.length ≤ 256) (hb : ∀ q k, q < 4 → k < 64 → (X q).testBit k = at' l (64 * q + k)) :
    countL l = pop64 (X 0) + pop64 (X 1) + pop64 (X 2) + pop64 (X 3) := by
  rw [countL_range l 256 hl]
  have e : ∀ q, q < 4 → pop64 (X q) = (((List.range 64).map (64 * q + ·)).filter fun i => at' l i).length := by
    intro q hq
    unfold pop64
    rw [List.filter_map, List.length_map]
    congr 1
    refine List.filter_congr fun k hk => ?_
    rw [hb q k hq (by simpa using hk)]; rfl
  rw [e 0 (by omega), e 1 (by omega), e 2 (by omega), e 3 (by omega)]
  rw [show (256 : Nat) = 64 + 64 + 64 + 64 from rfl, range_split, range_split, range_split]
  simp only [List.filter_append, List.length_append]
  have h0 : (List.range 64).map (64 * 0 + ·) = List.range 64 := by simp
  rw [h0]

/-- Which chunks are told by a base and bits: all below the base, and of the bits behind it those that are 1; the place is reckoned as Go's int64 does (w). -/
def wrap' (n : Int) : Int := (n + 9223372036854775808) % 18446744073709551616 - 9223372036854775808
def atOf (base : Int) (i : Nat) : Int := wrap' (wrap' ((i : Int) - base) - 1)
def bitOf (s : ByteArray) (p : Nat) : Bool := (s.data.getD (p / 8) 0).toNat.testBit (p % 8)
def toldAt (base : Int) (s : ByteArray) (i : Nat) : Bool :=
  if (i : Int) < base then true else
  if base < (i : Int) ∧ 0 ≤ atOf base i ∧ (atOf base i) < 8 * (s.size : Int) then bitOf s (atOf base i).toNat else false

/-- A map with what is told of the first k chunks laid over it. -/
def laid (l : List Bool) (told : Nat → Bool) (k : Nat) : List Bool := (List.range l.length).map fun i => at' l i || (decide (i < k) && told i)
def newOnes (l : List Bool) (told : Nat → Bool) (k : Nat) : Nat := ((List.range k).filter fun i => told i && !at' l i).length

theorem laid_length (l : List Bool) (told : Nat → Bool) (k : Nat) : (laid l told k).length = l.length := by simp [laid]

theorem at'_laid (l : List Bool) (told : Nat → Bool) (k i : Nat) : at' (laid l told k) i = (decide (i < l.length) && (at' l i || (decide (i < k) && told i))) := by
  rcases Nat.lt_or_ge i l.length with h | h
  · rw [at'_get (by rw [laid_length]; exact h)]
    simp [laid, h]
  · have : at' (laid l told k) i = false := by
      cases e : at' (laid l told k) i with
      | false => rfl
      | true => have := at'_lt e; rw [laid_length] at this; omega
    rw [this]; simp; intro; omega

theorem ext_at' {a b : List Bool} (hl : a.length = b.length) (h : ∀ i, i < a.length → at' a i = at' b i) : a = b := by
  refine List.ext_getElem hl fun i h1 h2 => ?_
  have := h i h1
  rwa [at'_get h1, at'_get h2] at this

theorem laid_zero (l : List Bool) (told : Nat → Bool) : laid l told 0 = l := by
  refine ext_at' (laid_length _ _ _) fun i hi => ?_
  rw [laid_length] at hi
  rw [at'_laid]; simp [hi]

theorem laid_skip (l : List Bool) (told : Nat → Bool) (k : Nat) (h : told k = false ∨ at' l k = true) : laid l told (k + 1) = laid l told k := by
  refine ext_at' (by simp [laid_length]) fun i hi => ?_
  rw [laid_length] at hi
  rw [at'_laid, at'_laid]
  by_cases e : i = k
  · subst e
    rcases h with h | h <;> simp [h]
  · have : decide (i < k + 1) = decide (i < k) := by rw [decide_eq_decide]; omega
    rw [this]

theorem laid_set (l : List Bool) (told : Nat → Bool) (k : Nat) (hk : k < l.length) (h : told k = true) : laid l told (k + 1) = (laid l told k).set k true := by
  refine ext_at' (by simp [laid_length]) fun i hi => ?_
  rw [laid_length] at hi
  rw [at'_set _ _ _ _ (by rw [laid_length]; exact hk), at'_laid, at'_laid]
  by_cases e : i = k
  · subst e; simp [h, hi]
  · rw [if_neg e]
    have : decide (i < k + 1) = decide (i < k) := by rw [decide_eq_decide]; omega
    rw [this]

theorem at'_laid_self (l : List Bool) (told : Nat → Bool) (k : Nat) : at' (laid l told k) k = at' l k := by
  rw [at'_laid]
  cases e : at' l k with
  | false => simp
  | true => simp [at'_lt e]

theorem newOnes_succ (l : List Bool) (told : Nat → Bool) (k : Nat) : newOnes l told (k + 1) = newOnes l told k + if told k = true ∧ at' l k = false then 1 else 0 := by
  unfold newOnes
  rw [List.range_succ, List.filter_append, List.length_append]
  cases e1 : told k <;> cases e2 : at' l k <;> simp [e1, e2]

theorem newOnes_le (l : List Bool) (told : Nat → Bool) (k : Nat) : newOnes l told k ≤ k := by
  unfold newOnes
  have := List.length_filter_le (fun i => told i && !at' l i) (List.range k)
  simpa using this

/-- Those that are missing of some, up to the k-th. -/
def missTo (l : List Bool) (a b : Int) (k : Nat) : List Int := ((List.range k).filter fun i : Nat => decide (a ≤ (i : Int)) && decide ((i : Int) < b) && !at' l i).map Int.ofNat
def missL (l : List Bool) (a b : Int) : List Int := missTo l a b l.length

theorem missTo_succ (l : List Bool) (a b : Int) (k : Nat) :
    missTo l a b (k + 1) = missTo l a b k ++ if a ≤ (k : Int) ∧ (k : Int) < b ∧ at' l k = false then [(k : Int)] else [] := by
  unfold missTo
  rw [List.range_succ, List.filter_append, List.map_append]
  congr 1
  by_cases h : a ≤ (k : Int) ∧ (k : Int) < b ∧ at' l k = false
  · rw [if_pos h]; simp [h]
  · rw [if_neg h]
    have : (decide (a ≤ (k : Int)) && decide ((k : Int) < b) && !at' l k) = false := by
      cases e : at' l k <;> simp_all
    simp [this]

theorem missTo_length (l : List Bool) (a b : Int) (k : Nat) : (missTo l a b k).length ≤ k := by
  unfold missTo
  rw [List.length_map]
  have := List.length_filter_le (fun i : Nat => decide (a ≤ (i : Int)) && decide ((i : Int) < b) && !at' l i) (List.range k)
  simpa using this

/-- Below a nothing is missing. -/
theorem missTo_low (l : List Bool) (a b : Int) : ∀ k : Nat, (k : Int) ≤ a ∨ k = 0 → missTo l a b k = [] := by
  intro k
  induction k with
  | zero => intro _; rfl
  | succ k ih =>
    intro h
    rw [missTo_succ, ih (by omega), if_neg (by omega)]; rfl

/-- From b on nothing is missing. -/
theorem missTo_high (l : List Bool) (a b : Int) (k : Nat) (h : b ≤ (k : Int)) : ∀ d, missTo l a b (k + d) = missTo l a b k := by
  intro d
  induction d with
  | zero => rfl
  | succ d ih => rw [← Nat.add_assoc, missTo_succ, ih, if_neg (by omega), List.append_nil]

/-- One byte of the bits that are told, of the first i of them. -/
def byteAt (g : Nat → Bool) (i j : Nat) : Nat :=
  (List.range 8).foldr (fun t n => (if 8 * j + t < i ∧ g (8 * j + t) = true then 2 ^ t else 0) + n) 0

theorem byteAt_eq (g : Nat → Bool) (i j : Nat) : byteAt g i j =
    (if 8 * j + 0 < i ∧ g (8 * j + 0) = true then 1 else 0) + ((if 8 * j + 1 < i ∧ g (8 * j + 1) = true then 2 else 0) + ((if 8 * j + 2 < i ∧ g (8 * j + 2) = true then 4 else 0) +
    ((if 8 * j + 3 < i ∧ g (8 * j + 3) = true then 8 else 0) + ((if 8 * j + 4 < i ∧ g (8 * j + 4) = true then 16 else 0) + ((if 8 * j + 5 < i ∧ g (8 * j + 5) = true then 32 else 0) +
    ((if 8 * j + 6 < i ∧ g (8 * j + 6) = true then 64 else 0) + ((if 8 * j + 7 < i ∧ g (8 * j + 7) = true then 128 else 0) + 0))))))) := rfl

theorem ite_le' (c : Prop) [Decidable c] (n : Nat) : (if c then n else 0) ≤ n := by split <;> omega

theorem byteAt_lt (g : Nat → Bool) (i j : Nat) : byteAt g i j < 256 := by
  rw [byteAt_eq]
  have h0 := ite_le' (8 * j + 0 < i ∧ g (8 * j + 0) = true) 1
  have h1 := ite_le' (8 * j + 1 < i ∧ g (8 * j + 1) = true) 2
  have h2 := ite_le' (8 * j + 2 < i ∧ g (8 * j + 2) = true) 4
  have h3 := ite_le' (8 * j + 3 < i ∧ g (8 * j + 3) = true) 8
  have h4 := ite_le' (8 * j + 4 < i ∧ g (8 * j + 4) = true) 16
  have h5 := ite_le' (8 * j + 5 < i ∧ g (8 * j + 5) = true) 32
  have h6 := ite_le' (8 * j + 6 < i ∧ g (8 * j + 6) = true) 64
  have h7 := ite_le' (8 * j + 7 < i ∧ g (8 * j + 7) = true) 128
  omega

theorem ite_step (g : Nat → Bool) (i m n : Nat) (h : m ≠ i) : (if m < i + 1 ∧ g m = true then n else 0) = (if m < i ∧ g m = true then n else 0) := by
  have : (m < i + 1 ∧ g m = true) ↔ (m < i ∧ g m = true) := by constructor <;> rintro ⟨a, b⟩ <;> exact ⟨by omega, b⟩
  simp only [this]

theorem byteAt_other (g : Nat → Bool) (i j : Nat) (h : j ≠ i / 8 ∨ g i = false) : byteAt g (i + 1) j = byteAt g i j := by
  have key : ∀ t n, t < 8 → (if 8 * j + t < i + 1 ∧ g (8 * j + t) = true then n else 0) = (if 8 * j + t < i ∧ g (8 * j + t) = true then n else 0) := by
    intro t n ht
    by_cases e : 8 * j + t = i
    · have hg : g i = false := by
        rcases h with h | h
        · omega
        · exact h
      rw [e, hg]; simp
    · exact ite_step g i _ n e
  rw [byteAt_eq, byteAt_eq, key 0 _ (by omega), key 1 _ (by omega), key 2 _ (by omega), key 3 _ (by omega), key 4 _ (by omega), key 5 _ (by omega), key 6 _ (by omega), key 7 _ (by omega)]

/-- The bit that comes next stands above all that the byte holds. -/
theorem byteAt_step (g : Nat → Bool) (i : Nat) (hg : g i = true) : byteAt g i (i / 8) < 2 ^ (i % 8) ∧ byteAt g (i + 1) (i / 8) = byteAt g i (i / 8) + 2 ^ (i % 8) := by
  obtain ⟨j, t, ht, rfl⟩ : ∃ j t, t < 8 ∧ i = 8 * j + t := ⟨i / 8, i % 8, by omega, by omega⟩
  rw [show (8 * j + t) / 8 = j from by omega, show (8 * j + t) % 8 = t from by omega]
  have past : ∀ u n, t ≤ u → (if 8 * j + u < 8 * j + t ∧ g (8 * j + u) = true then n else 0) = 0 := fun u n hu => if_neg (by omega)
  have past' : ∀ u n, t < u → (if 8 * j + u < 8 * j + t + 1 ∧ g (8 * j + u) = true then n else 0) = 0 := fun u n hu => if_neg (by omega)
  have now : ∀ n : Nat, (if 8 * j + t < 8 * j + t + 1 ∧ g (8 * j + t) = true then n else 0) = n := fun n => if_pos ⟨by omega, hg⟩
  have old : ∀ u n, u < t → (if 8 * j + u < 8 * j + t + 1 ∧ g (8 * j + u) = true then n else 0) = (if 8 * j + u < 8 * j + t ∧ g (8 * j + u) = true then n else 0) := fun u n hu => ite_step g _ _ n (by omega)
  have b0 := ite_le' (8 * j + 0 < 8 * j + t ∧ g (8 * j + 0) = true) 1
  have b1 := ite_le' (8 * j + 1 < 8 * j + t ∧ g (8 * j + 1) = true) 2
  have b2 := ite_le' (8 * j + 2 < 8 * j + t ∧ g (8 * j + 2) = true) 4
  have b3 := ite_le' (8 * j + 3 < 8 * j + t ∧ g (8 * j + 3) = true) 8
  have b4 := ite_le' (8 * j + 4 < 8 * j + t ∧ g (8 * j + 4) = true) 16
  have b5 := ite_le' (8 * j + 5 < 8 * j + t ∧ g (8 * j + 5) = true) 32
  have b6 := ite_le' (8 * j + 6 < 8 * j + t ∧ g (8 * j + 6) = true) 64
  rw [byteAt_eq, byteAt_eq]
  match t, ht with
  | 0, _ =>
    rw [now 1, past 0 _ (by omega), past 1 _ (by omega), past 2 _ (by omega), past 3 _ (by omega), past 4 _ (by omega), past 5 _ (by omega), past 6 _ (by omega), past 7 _ (by omega), past' 1 _ (by omega), past' 2 _ (by omega), past' 3 _ (by omega), past' 4 _ (by omega), past' 5 _ (by omega), past' 6 _ (by omega), past' 7 _ (by omega)]; omega
  | 1, _ =>
    rw [now 2, old 0 _ (by omega), past 1 _ (by omega), past 2 _ (by omega), past 3 _ (by omega), past 4 _ (by omega), past 5 _ (by omega), past 6 _ (by omega), past 7 _ (by omega), past' 2 _ (by omega), past' 3 _ (by omega), past' 4 _ (by omega), past' 5 _ (by omega), past' 6 _ (by omega), past' 7 _ (by omega)]; omega
  | 2, _ =>
    rw [now 4, old 0 _ (by omega), old 1 _ (by omega), past 2 _ (by omega), past 3 _ (by omega), past 4 _ (by omega), past 5 _ (by omega), past 6 _ (by omega), past 7 _ (by omega), past' 3 _ (by omega), past' 4 _ (by omega), past' 5 _ (by omega), past' 6 _ (by omega), past' 7 _ (by omega)]; omega
  | 3, _ =>
    rw [now 8, old 0 _ (by omega), old 1 _ (by omega), old 2 _ (by omega), past 3 _ (by omega), past 4 _ (by omega), past 5 _ (by omega), past 6 _ (by omega), past 7 _ (by omega), past' 4 _ (by omega), past' 5 _ (by omega), past' 6 _ (by omega), past' 7 _ (by omega)]; omega
  | 4, _ =>
    rw [now 16, old 0 _ (by omega), old 1 _ (by omega), old 2 _ (by omega), old 3 _ (by omega), past 4 _ (by omega), past 5 _ (by omega), past 6 _ (by omega), past 7 _ (by omega), past' 5 _ (by omega), past' 6 _ (by omega), past' 7 _ (by omega)]; omega
  | 5, _ =>
    rw [now 32, old 0 _ (by omega), old 1 _ (by omega), old 2 _ (by omega), old 3 _ (by omega), old 4 _ (by omega), past 5 _ (by omega), past 6 _ (by omega), past 7 _ (by omega), past' 6 _ (by omega), past' 7 _ (by omega)]; omega
  | 6, _ =>
    rw [now 64, old 0 _ (by omega), old 1 _ (by omega), old 2 _ (by omega), old 3 _ (by omega), old 4 _ (by omega), old 5 _ (by omega), past 6 _ (by omega), past 7 _ (by omega), past' 7 _ (by omega)]; omega
  | 7, _ =>
    rw [now 128, old 0 _ (by omega), old 1 _ (by omega), old 2 _ (by omega), old 3 _ (by omega), old 4 _ (by omega), old 5 _ (by omega), old 6 _ (by omega), past 7 _ (by omega)]; omega

/-- All m bytes, of the first i bits. -/
def accB (g : Nat → Bool) (i m : Nat) : List Nat := (List.range m).map (byteAt g i)

theorem accB_length (g : Nat → Bool) (i m : Nat) : (accB g i m).length = m := by simp [accB]
theorem accB_get (g : Nat → Bool) (i m j : Nat) (h : j < m) : (accB g i m)[j]? = some (byteAt g i j) := by simp [accB, h]
theorem accB_zero (g : Nat → Bool) (m : Nat) : accB g 0 m = List.replicate m 0 := by
  refine List.ext_getElem (by simp [accB]) fun j h1 h2 => ?_
  simp [accB, byteAt_eq]
theorem accB_skip (g : Nat → Bool) (i m : Nat) (h : g i = false) : accB g (i + 1) m = accB g i m := by
  unfold accB
  refine List.map_congr_left fun j _ => byteAt_other g i j (Or.inr h)
theorem accB_set (g : Nat → Bool) (i m : Nat) (h : g i = true) : accB g (i + 1) m = (accB g i m).set (i / 8) (byteAt g i (i / 8) + 2 ^ (i % 8)) := by
  refine List.ext_getElem (by simp [accB]) fun j h1 h2 => ?_
  simp only [accB, List.length_map, List.length_range] at h1
  rw [List.getElem_set]
  by_cases e : i / 8 = j
  · rw [if_pos e]; subst e
    simp only [accB, List.getElem_map, List.getElem_range]
    exact (byteAt_step g i h).2
  · rw [if_neg e]
    simp only [accB, List.getElem_map, List.getElem_range]
    exact byteAt_other g i j (Or.inl (fun e' => e e'.symm))

/-- The bits behind the base, as bytes. -/
def gB (l : List Bool) (i : Nat) : Bool := at' l (baseL l + 1 + i)
def behindL (l : List Bool) (k : Nat) : List UInt8 := (accB (gB l) k ((k + 7) / 8)).map UInt8.ofNat

/-- k as Behind takes it: from 0 to 256. -/
def upTo256 (k : Int) : Nat := (min (max k 0) 256).toNat

end Go.Proofs.Ytffcambjdlkfbaa
