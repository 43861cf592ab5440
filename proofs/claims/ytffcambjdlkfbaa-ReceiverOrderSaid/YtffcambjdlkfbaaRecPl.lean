/- Plain law of a receiver: what is written as numbers and texts is read back; what Resume makes of bytes has them for its cursor, and of a cursor the receiver. -/
import Derived.Test.YtffcambjdlkfbaaRecC
namespace Go.Proofs.Ytffcambjdlkfbaa
open Go.RowKit

/-- Bytes as a string. -/
abbrev mkB (l : List UInt8) : ByteArray := ⟨l.toArray⟩

theorem mkB_toList (s : ByteArray) : mkB s.data.toList = s := by cases s; simp [mkB]
theorem size_mkB (l : List UInt8) : (mkB l).size = l.length := by simp [ByteArray.size]
theorem byteV_cons (x : UInt8) (l : List UInt8) : byteV (mkB (x :: l)) 0 = x.toNat := by
  unfold byteV; rw [if_neg (by rw [size_mkB]; simp)]; simp
theorem byteE_cons (x : UInt8) (l : List UInt8) : byteE (mkB (x :: l)) 0 = 0 := by
  unfold byteE; rw [if_neg (by simp), if_neg (by rw [size_mkB]; simp)]
theorem extract_mkB (l : List UInt8) (i j : Nat) : (mkB l).extract i j = mkB ((l.drop i).take (j - i)) := by
  apply ByteArray.ext
  rw [ByteArray.data_extract]
  apply Array.ext'
  simp [List.take_drop, List.extract]
theorem byteS_cons (x : UInt8) (l : List UInt8) : byteS (mkB (x :: l)) 0 = mkB l := by
  unfold byteS; rw [if_neg (by rw [size_mkB]; simp), extract_mkB, size_mkB]; simp

/-- A number that was written is read back. -/
theorem uint_read (k : Nat) : ∀ i acc m rest, i + k = 10 → (0 < i → 0 < m) → m * 2 ^ (7 * i) < 2 ^ 64 → i ≤ 9 → uintR k i acc (mkB (numB m ++ rest)) 0 = (acc + m * 2 ^ (7 * i), mkB rest, 0) := by
  induction k with
  | zero => intro i acc m rest hi; omega
  | succ k ih =>
    intro i acc m rest hi hm hlt hi9
    have h9 : i = 9 → m ≤ 1 := fun h => by
      subst h
      have : (2 : Nat) ^ (7 * 9) = 9223372036854775808 := by decide
      rw [this] at hlt
      omega
    unfold numB uintR
    by_cases h : m < 128
    · rw [if_pos h]
      rw [List.singleton_append, byteE_cons, byteV_cons, byteS_cons, UInt8.toNat_ofNat_of_lt' (by omega : m < 256)]
      rw [if_neg (by simp), if_neg (by omega), if_pos h, Nat.mod_eq_of_lt h]
    · rw [if_neg h]
      have hi8 : i ≤ 8 := by
        rcases Nat.lt_or_ge i 9 with h1 | h1
        · omega
        · have := h9 (by omega); omega
      rw [List.cons_append, byteE_cons, byteV_cons, byteS_cons, UInt8.toNat_ofNat_of_lt' (by omega : m % 128 + 128 < 256)]
      rw [if_neg (by simp), if_neg (by omega), if_neg (by omega)]
      have e2 : 2 ^ (7 * (i + 1)) = 128 * 2 ^ (7 * i) := by rw [show 7 * (i + 1) = 7 * i + 7 from by omega, Nat.pow_add]; omega
      have e3 : m % 128 * 2 ^ (7 * i) + m / 128 * (128 * 2 ^ (7 * i)) = m * 2 ^ (7 * i) := by
        rw [← Nat.mul_assoc, ← Nat.add_mul]; congr 1; omega
      rw [ih (i + 1) _ (m / 128) rest (by omega) (fun _ => by omega) (by rw [e2]; omega) (by omega), e2, Nat.add_mod_right, Nat.mod_mod, Nat.add_assoc, e3]

theorem uint_read0 (m : Nat) (rest : List UInt8) (h : m < 2 ^ 64) : uintR 10 0 0 (mkB (numB m ++ rest)) 0 = (m, mkB rest, 0) := by
  rw [uint_read 10 0 0 m rest (by omega) (by omega) (by simpa using h) (by omega)]; simp

/-- What was read as a number was written so. -/
theorem uint_back (k : Nat) : ∀ i acc l n s', i + k = 10 → uintR k i acc (mkB l) 0 = (n, s', 0) → k ≠ 0 → ∃ m, n = acc + m * 2 ^ (7 * i) ∧ l = numB m ++ s'.data.toList ∧ (0 < i → 0 < m) := by
  induction k with
  | zero => intro i acc l n s' _ _ h; exact absurd rfl h
  | succ k ih =>
    intro i acc l n s' hi h _
    unfold uintR at h
    cases l with
    | nil =>
      rw [if_pos (by simp [byteE, ByteArray.size])] at h
      have : byteE (mkB []) 0 = 3 := by simp [byteE, ByteArray.size]
      rw [this] at h
      simp at h
    | cons x l =>
      rw [byteE_cons, byteV_cons, byteS_cons, if_neg (by simp)] at h
      have hx : x.toNat < 256 := UInt8.toNat_lt x
      split at h
      · simp at h
      rename_i hn
      split at h
      · rename_i hlt
        injection h with h1 h2
        injection h2 with h2 _
        subst h2
        refine ⟨x.toNat, ?_, ?_, fun h0 => ?_⟩
        · rw [← h1, Nat.mod_eq_of_lt hlt]
        · unfold numB; rw [if_pos hlt]; simp
        · rcases Nat.eq_zero_or_pos x.toNat with hz | hz
          · exact absurd (Or.inr ⟨h0, hz⟩) hn
          · exact hz
      · rename_i hge
        have hi9 : i ≠ 9 := fun e => hn (Or.inl ⟨e, by omega⟩)
        obtain ⟨m, h1, h2, h3⟩ := ih (i + 1) _ l n s' (by omega) h (by omega)
        have hm := h3 (by omega)
        have e2 : 2 ^ (7 * (i + 1)) = 128 * 2 ^ (7 * i) := by rw [show 7 * (i + 1) = 7 * i + 7 from by omega, Nat.pow_add]; omega
        refine ⟨x.toNat % 128 + 128 * m, ?_, ?_, fun _ => by omega⟩
        · rw [h1, e2, Nat.add_mul, Nat.add_assoc]
          congr 2
          rw [← Nat.mul_assoc, Nat.mul_comm m 128]
        · rw [numB, if_neg (by omega)]
          rw [show (x.toNat % 128 + 128 * m) % 128 + 128 = x.toNat from by omega, show (x.toNat % 128 + 128 * m) / 128 = m from by omega]
          rw [h2]; simp

theorem uint_back0 (s : ByteArray) (n : Nat) (s' : ByteArray) (h : uintR 10 0 0 s 0 = (n, s', 0)) : s.data.toList = numB n ++ s'.data.toList := by
  rw [← mkB_toList s] at h
  obtain ⟨m, h1, h2, _⟩ := uint_back 10 0 0 _ n s' (by omega) h (by omega)
  simp at h1
  rw [h1]; exact h2

theorem uint_err (s : ByteArray) (e : Int) (he : e ≠ 0) : uintR 10 0 0 s e = (0, s, e) := by
  unfold uintR
  have : byteE s e = e := by unfold byteE; rw [if_pos he]
  rw [this, if_pos he]
  unfold byteS
  rw [if_pos (Or.inl he)]

theorem text_read0 (t : ByteArray) (rest : List UInt8) (h : t.size ≤ 1000) : textR (mkB (textB t ++ rest)) 0 = (t, mkB rest, 0) := by
  unfold textR textB
  rw [List.append_assoc, uint_read0 _ _ (by omega)]
  have hl : t.data.toList.length = t.size := rfl
  dsimp only
  rw [if_neg (by simp), if_neg (by omega)]
  unfold rawV rawS rawE
  have hs : (mkB (t.data.toList ++ rest)).size = t.size + rest.length := by rw [size_mkB, List.length_append, hl]
  have q1 : ¬ ((t.size : Int) < 0) := by omega
  have q2 : ¬ (((mkB (t.data.toList ++ rest)).size : Int) < (t.size : Int)) := by rw [hs]; omega
  rw [if_neg (by simp), if_neg q1, if_neg q2, if_neg (by simp), if_neg q1, if_neg q2, if_neg (by simp), if_neg q1, if_neg q2]
  rw [extract_mkB, extract_mkB, Int.toNat_natCast, hs, Nat.sub_zero, List.drop_zero, ← hl, List.take_left, List.drop_left, mkB_toList, Nat.add_sub_cancel_left, List.take_length]

theorem text_back0 (s t s' : ByteArray) (h : textR s 0 = (t, s', 0)) : s.data.toList = textB t ++ s'.data.toList ∧ t.size ≤ 1000 := by
  unfold textR at h
  obtain ⟨R, hR⟩ : ∃ R, uintR 10 0 0 s 0 = R := ⟨_, rfl⟩
  rw [hR] at h
  obtain ⟨n, s1, e1⟩ := R
  dsimp only at h
  split at h
  · rename_i he
    injection h with _ h
    injection h with _ h
    exact absurd h he
  · rename_i he
    have he0 : e1 = 0 := by
      rcases Int.lt_trichotomy e1 0 with h' | h' | h'
      · exact absurd (by omega) he
      · exact h'
      · exact absurd (by omega) he
    subst he0
    split at h
    · injection h with _ h
      injection h with _ h
      simp at h
    · rename_i hn
      have hb := uint_back0 s n s1 hR
      unfold rawV rawS rawE at h
      have q1 : ¬ ((n : Int) < 0) := by omega
      simp only [ne_eq, not_true_eq_false, if_false, q1] at h
      by_cases q2 : ((s1.size : Int) < (n : Int))
      · simp [q2] at h
      · rw [if_neg q2, if_neg q2] at h
        injection h with h1 h2
        injection h2 with h2 _
        have hl : s1.data.toList.length = s1.size := rfl
        have h1' : t.data.toList = s1.data.toList.take n := by rw [← h1, ByteArray.data_extract]; simp [List.extract]
        have h2' : s'.data.toList = s1.data.toList.drop n := by
          rw [← h2, ByteArray.data_extract]; simp [List.extract]; rw [List.take_of_length_le (by rw [List.length_drop, hl]; omega)]
        have ht : t.size = n := by
          have : t.data.toList.length = t.size := rfl
          rw [← this, h1', List.length_take, hl]; omega
        exact ⟨by rw [hb, textB, ht, h1', h2', List.append_assoc, List.take_append_drop], by omega⟩

/-- A receiver: its session, its epoch, which chunks are there, their texts, and how often it refused, by the error. -/
structure Rcv where
  ses : Nat
  epo : Nat
  l : List Bool
  c : List ByteArray
  d : List Int

abbrev noText : ByteArray := ByteArray.empty
abbrev zeros20 : List Int := List.replicate 20 0
def newR (ses epo n : Nat) : Rcv := ⟨ses, epo, List.replicate n false, List.replicate n noText, zeros20⟩

/-- What a receiver that is reached is like. -/
structure Rcv.Good (r : Rcv) : Prop where
  ses : r.ses < 4294967296
  epo : r.epo < 4294967296
  len : r.c.length = r.l.length
  low : 1 ≤ r.l.length
  high : r.l.length ≤ 256
  none : ∀ i, at' r.l i = false → r.c.getD i noText = noText
  most : ∀ i, (r.c.getD i noText).size ≤ 1000
  dlen : r.d.length = 20

/-- The chunks from i on that are there, k of them looked at, as bytes. -/
def chunksB (l : List Bool) (c : List ByteArray) : Nat → Nat → List UInt8
  | _, 0 => []
  | i, k + 1 => (if at' l i = true then numB i ++ textB (c.getD i noText) else []) ++ chunksB l c (i + 1) k

theorem chunksB_snoc (l : List Bool) (c : List ByteArray) : ∀ k i, chunksB l c i (k + 1) = chunksB l c i k ++ (if at' l (i + k) = true then numB (i + k) ++ textB (c.getD (i + k) noText) else []) := by
  intro k
  induction k with
  | zero => intro i; simp [chunksB]
  | succ k ih =>
    intro i
    rw [chunksB, ih (i + 1), chunksB, show i + 1 + k = i + (k + 1) from by omega]
    simp

theorem chunksB_congr (l l' : List Bool) (c c' : List ByteArray) : ∀ k i, (∀ j, i ≤ j → j < i + k → at' l j = at' l' j ∧ c.getD j noText = c'.getD j noText) → chunksB l c i k = chunksB l' c' i k := by
  intro k
  induction k with
  | zero => intro i _; rfl
  | succ k ih =>
    intro i h
    rw [chunksB, chunksB, (h i (by omega) (by omega)).1, (h i (by omega) (by omega)).2, ih (i + 1) (fun j h1 h2 => h j (by omega) (by omega))]

theorem chunksB_none (l : List Bool) (c : List ByteArray) : ∀ k i, (∀ j, i ≤ j → j < i + k → at' l j = false) → chunksB l c i k = [] := by
  intro k
  induction k with
  | zero => intro i _; rfl
  | succ k ih =>
    intro i h
    rw [chunksB, h i (by omega) (by omega), ih (i + 1) (fun j h1 h2 => h j (by omega) (by omega))]; rfl

theorem chunksB_split (l : List Bool) (c : List ByteArray) : ∀ a i k, chunksB l c i (a + k) = chunksB l c i a ++ chunksB l c (i + a) k := by
  intro a
  induction a with
  | zero => intro i k; simp [chunksB]
  | succ a ih =>
    intro i k
    rw [show a + 1 + k = (a + k) + 1 from by omega, chunksB, ih (i + 1) k, chunksB, show i + 1 + a = i + (a + 1) from by omega, List.append_assoc]

def cursorL (r : Rcv) : List UInt8 := numB r.ses ++ (numB r.epo ++ (numB r.l.length ++ (chunksB r.l r.c 0 r.l.length ++ numB r.l.length)))

def Rcv.put (r : Rcv) (i : Nat) (t : ByteArray) : Rcv := ⟨r.ses, r.epo, r.l.set i true, r.c.set i t, r.d⟩

/-- The loop of Resume: s is left, last is the last chunk's number, n the number of chunks. -/
def resumeL : Nat → ByteArray → Int → Nat → Rcv → Option Rcv × Int
  | 0, _, _, _, _ => (none, 0)
  | k + 1, s, last, n, r =>
    if (uintR 10 0 0 s 0).2.2 ≠ 0 then (none, (uintR 10 0 0 s 0).2.2)
    else if (uintR 10 0 0 s 0).1 = n then (if (uintR 10 0 0 s 0).2.1.size = 0 then (some r, 0) else (none, 4))
    else if n < (uintR 10 0 0 s 0).1 then (none, 14)
    else if ((uintR 10 0 0 s 0).1 : Int) ≤ last then (none, 6)
    else if (textR (uintR 10 0 0 s 0).2.1 0).2.2 ≠ 0 then (none, (textR (uintR 10 0 0 s 0).2.1 0).2.2)
    else resumeL k (textR (uintR 10 0 0 s 0).2.1 0).2.1 (uintR 10 0 0 s 0).1 n (r.put (uintR 10 0 0 s 0).1 (textR (uintR 10 0 0 s 0).2.1 0).1)

/-- Behind the three numbers. -/
def resumeM (a b c : Nat) (s : ByteArray) (e : Int) : Option Rcv × Int :=
  if e ≠ 0 then (none, e)
  else if ¬ May14 ((min a 4294967296 : Nat) : Int) ((min b 4294967296 : Nat) : Int) ((min c 4294967296 : Nat) : Int) then (none, 1)
  else resumeL 258 s (-1) c (newR a b c)

def resumeR (s : ByteArray) : Option Rcv × Int :=
  let A := uintR 10 0 0 s 0
  let B := uintR 10 0 0 A.2.1 A.2.2
  let C := uintR 10 0 0 B.2.1 B.2.2
  resumeM A.1 B.1 C.1 C.2.1 C.2.2

theorem at'_replicate (n i : Nat) : at' (List.replicate n false) i = false := by
  unfold at'; rw [List.getD_eq_getElem?_getD, List.getElem?_replicate]; split <;> rfl
theorem texts_replicate (n i : Nat) : (List.replicate n noText).getD i noText = noText := by
  rw [List.getD_eq_getElem?_getD, List.getElem?_replicate]; split <;> rfl
theorem getD_set' (c : List ByteArray) (i j : Nat) (t : ByteArray) (h : i < c.length) : (c.set i t).getD j noText = if j = i then t else c.getD j noText := by
  rw [List.getD_eq_getElem?_getD, List.getElem?_set]
  by_cases e : i = j
  · subst e; simp [h]
  · rw [if_neg e, if_neg (fun h => e h.symm), List.getD_eq_getElem?_getD]
theorem at'_set' (l : List Bool) (i j : Nat) (h : i < l.length) : at' (l.set i true) j = if j = i then true else at' l j := by
  unfold at'
  rw [List.getD_eq_getElem?_getD, List.getElem?_set]
  by_cases e : i = j
  · subst e; simp [h]
  · rw [if_neg e, if_neg (fun h => e h.symm), List.getD_eq_getElem?_getD]

theorem newR_good (a b n : Nat) (ha : a < 4294967296) (hb : b < 4294967296) (h1 : 1 ≤ n) (h2 : n ≤ 256) : (newR a b n).Good :=
  ⟨ha, hb, by simp [newR], by simpa [newR] using h1, by simpa [newR] using h2, fun i _ => texts_replicate n i, fun i => by
    show ((List.replicate n noText).getD i noText).size ≤ 1000
    rw [texts_replicate]; decide, by simp [newR]⟩

theorem put_good (r : Rcv) (h : r.Good) (i : Nat) (hi : i < r.l.length) (t : ByteArray) (ht : t.size ≤ 1000) : (r.put i t).Good :=
  ⟨h.ses, h.epo, by simpa [Rcv.put] using h.len, by simpa [Rcv.put] using h.low, by simpa [Rcv.put] using h.high, fun j hj => by
    show (r.c.set i t).getD j noText = noText
    have hj' : at' (r.l.set i true) j = false := hj
    rw [at'_set' _ _ _ hi] at hj'
    rw [getD_set' _ _ _ _ (by rw [h.len]; exact hi)]
    split at hj'
    · cases hj'
    · rename_i e; rw [if_neg e]; exact h.none j hj', fun j => by
    show ((r.c.set i t).getD j noText).size ≤ 1000
    rw [getD_set' _ _ _ _ (by rw [h.len]; exact hi)]
    split
    · exact ht
    · exact h.most j, h.dlen⟩

theorem resumeL_back (k : Nat) : ∀ (s : ByteArray) (last : Int) (n : Nat) (r R : Rcv), r.Good → r.l.length = n → last < (n : Int) → (∀ j : Nat, last < (j : Int) → at' r.l j = false) → -1 ≤ last → resumeL k s last n r = (some R, 0) →
    R.Good ∧ R.ses = r.ses ∧ R.epo = r.epo ∧ R.l.length = n ∧ R.d = r.d ∧ chunksB r.l r.c 0 (last + 1).toNat ++ s.data.toList = chunksB R.l R.c 0 n ++ numB n := by
  induction k with
  | zero => intro s last n r R _ _ _ _ _ h; simp [resumeL] at h
  | succ k ih =>
    intro s last n r R hg hn hln hz hl h
    unfold resumeL at h
    obtain ⟨U, hU⟩ : ∃ U, uintR 10 0 0 s 0 = U := ⟨_, rfl⟩
    rw [hU] at h
    obtain ⟨u, s1, e1⟩ := U
    dsimp only at h
    split at h
    · simp at h
    rename_i he
    have he : e1 = 0 := Decidable.not_not.1 he
    subst he
    have hb := uint_back0 s u s1 hU
    split at h
    · rename_i hun
      subst hun
      split at h
      · rename_i hs
        injection h with h _
        injection h with h
        subst h
        have hs' : s1.data.toList = [] := List.length_eq_zero_iff.1 hs
        refine ⟨hg, rfl, rfl, hn, rfl, ?_⟩
        rw [hb, hs', List.append_nil]
        congr 1
        have := chunksB_split r.l r.c (last + 1).toNat 0 (u - (last + 1).toNat)
        rw [show (last + 1).toNat + (u - (last + 1).toNat) = u from by omega] at this
        rw [this, chunksB_none r.l r.c (u - (last + 1).toNat) (0 + (last + 1).toNat) (fun j h1 h2 => hz j (by omega)), List.append_nil]
      · simp at h
    · rename_i hun
      split at h
      · simp at h
      rename_i hlt
      split at h
      · simp at h
      rename_i hla
      obtain ⟨V, hV⟩ : ∃ V, textR s1 0 = V := ⟨_, rfl⟩
      rw [hV] at h
      obtain ⟨t, s2, e2⟩ := V
      dsimp only at h
      split at h
      · simp at h
      rename_i he2
      have he2 : e2 = 0 := Decidable.not_not.1 he2
      subst he2
      obtain ⟨ht, hts⟩ := text_back0 s1 t s2 hV
      have hul : u < r.l.length := by omega
      have hcl : u < r.c.length := by rw [hg.len]; exact hul
      obtain ⟨g1, g2, g3, g4, g5, g6⟩ := ih s2 u n (r.put u t) R (put_good r hg u hul t hts) (by simpa [Rcv.put] using hn) (by omega) (fun j hj => by
        show at' (r.l.set u true) j = false
        rw [at'_set' _ _ _ hul, if_neg (by omega)]; exact hz j (by omega)) (by omega) h
      refine ⟨g1, g2, g3, g4, g5, ?_⟩
      rw [← g6, hb, ht]
      have e : ((u : Int) + 1).toNat = u + 1 := by omega
      rw [e]
      show _ = chunksB (r.l.set u true) (r.c.set u t) 0 (u + 1) ++ _
      rw [chunksB_snoc, Nat.zero_add, at'_set' _ _ _ hul, if_pos rfl, if_pos rfl, getD_set' _ _ _ _ hcl, if_pos rfl]
      have e2 : chunksB (r.l.set u true) (r.c.set u t) 0 u = chunksB r.l r.c 0 (last + 1).toNat := by
        rw [chunksB_congr (r.l.set u true) r.l (r.c.set u t) r.c u 0 (fun j _ hj => ⟨by rw [at'_set' _ _ _ hul, if_neg (by omega)], by rw [getD_set' _ _ _ _ hcl, if_neg (by omega)]⟩)]
        have := chunksB_split r.l r.c (last + 1).toNat 0 (u - (last + 1).toNat)
        rw [show (last + 1).toNat + (u - (last + 1).toNat) = u from by omega] at this
        rw [this, chunksB_none r.l r.c (u - (last + 1).toNat) (0 + (last + 1).toNat) (fun j h1 h2 => hz j (by omega)), List.append_nil]
      rw [e2]
      simp [List.append_assoc]

/-- The cursor of what Resume made is the bytes. -/
theorem resumeR_back (s : ByteArray) (R : Rcv) (h : resumeR s = (some R, 0)) : R.Good ∧ R.d = zeros20 ∧ mkB (cursorL R) = s := by
  unfold resumeR at h
  obtain ⟨A, hA⟩ : ∃ A, uintR 10 0 0 s 0 = A := ⟨_, rfl⟩
  obtain ⟨a, s1, e1⟩ := A
  obtain ⟨B, hB⟩ : ∃ B, uintR 10 0 0 s1 e1 = B := ⟨_, rfl⟩
  obtain ⟨b, s2, e2⟩ := B
  obtain ⟨C, hC⟩ : ∃ C, uintR 10 0 0 s2 e2 = C := ⟨_, rfl⟩
  obtain ⟨c, s3, e3⟩ := C
  simp only [hA, hB, hC] at h
  unfold resumeM at h
  split at h
  · simp at h
  rename_i he3
  have he3 : e3 = 0 := Decidable.not_not.1 he3
  subst he3
  have he2 : e2 = 0 := by
    apply Decidable.byContradiction; intro hne
    rw [uint_err _ _ hne] at hC
    injection hC with _ hC; injection hC with _ hC; exact hne hC
  subst he2
  have he1 : e1 = 0 := by
    apply Decidable.byContradiction; intro hne
    rw [uint_err _ _ hne] at hB
    injection hB with _ hB; injection hB with _ hB; exact hne hB
  subst he1
  split at h
  · simp at h
  rename_i hm
  have hm := Decidable.not_not.1 hm
  unfold May14 at hm
  obtain ⟨⟨_, m1⟩, ⟨_, m2⟩, m3, m4⟩ := hm
  obtain ⟨g1, g2, g3, g4, g5, g6⟩ := resumeL_back 258 s3 (-1) c (newR a b c) R (newR_good a b c (by omega) (by omega) (by omega) (by omega)) (by simp [newR]) (by omega) (fun j _ => at'_replicate c j) (by omega) h
  refine ⟨g1, g5, ?_⟩
  unfold cursorL
  rw [g2, g3, g4]
  have b1 := uint_back0 _ _ _ hA
  have b2 := uint_back0 _ _ _ hB
  have b3 := uint_back0 _ _ _ hC
  have e0 : ((-1 : Int) + 1).toNat = 0 := rfl
  rw [e0] at g6
  simp only [chunksB, List.nil_append] at g6
  rw [← g6, ← mkB_toList s, b1, b2, b3]
  rfl

/-- The first j chunks of a receiver, nothing refused. -/
def Rcv.upto (r : Rcv) (j : Nat) : Rcv := ⟨r.ses, r.epo, (List.range r.l.length).map (fun i => decide (i < j) && at' r.l i), (List.range r.l.length).map (fun i => if i < j then r.c.getD i noText else noText), zeros20⟩

theorem map_range_getD {α : Type} (f : Nat → α) (n i : Nat) (x : α) : ((List.range n).map f).getD i x = if i < n then f i else x := by
  rw [List.getD_eq_getElem?_getD, List.getElem?_map]
  by_cases h : i < n
  · rw [if_pos h, List.getElem?_range h]; rfl
  · rw [if_neg h, List.getElem?_eq_none (by simpa using h)]; rfl

theorem upto_same (r : Rcv) (hg : r.Good) (j : Nat) (h : at' r.l j = false) : r.upto (j + 1) = r.upto j := by
  unfold Rcv.upto
  congr 1
  · apply List.map_congr_left
    intro i _
    by_cases e : i = j
    · subst e; simp [h]
    · have : decide (i < j + 1) = decide (i < j) := by rw [Bool.eq_iff_iff]; simp; omega
      rw [this]
  · apply List.map_congr_left
    intro i _
    by_cases e : i = j
    · subst e; rw [if_pos (by omega), if_neg (by omega)]; exact hg.none i h
    · by_cases q : i < j
      · rw [if_pos q, if_pos (by omega)]
      · rw [if_neg q, if_neg (by omega)]

theorem upto_put (r : Rcv) (j : Nat) (hj : j < r.l.length) (h : at' r.l j = true) : (r.upto j).put j (r.c.getD j noText) = r.upto (j + 1) := by
  unfold Rcv.upto Rcv.put
  congr 1
  · apply List.ext_getElem?
    intro i
    rw [List.getElem?_set]
    by_cases e : j = i
    · subst e; simp [hj, h]
    · rw [if_neg e]
      rw [List.getElem?_map, List.getElem?_map]
      have : decide (i < j + 1) = decide (i < j) := by rw [Bool.eq_iff_iff]; simp; omega
      by_cases hi : i < r.l.length
      · rw [List.getElem?_range hi]; simp [this]
      · rw [List.getElem?_eq_none (by simpa using hi)]; rfl
  · apply List.ext_getElem?
    intro i
    rw [List.getElem?_set]
    by_cases e : j = i
    · subst e; simp [hj]
    · rw [if_neg e]
      rw [List.getElem?_map, List.getElem?_map]
      have : (i < j + 1) = (i < j) := by apply propext; omega
      by_cases hi : i < r.l.length
      · rw [List.getElem?_range hi]; simp [this]
      · rw [List.getElem?_eq_none (by simpa using hi)]; rfl

theorem upto_zero (r : Rcv) : r.upto 0 = newR r.ses r.epo r.l.length := by
  unfold Rcv.upto newR
  congr 1
  · apply List.ext_getElem?; intro i
    rw [List.getElem?_map, List.getElem?_replicate]
    by_cases hi : i < r.l.length
    · rw [List.getElem?_range hi]; simp [hi]
    · rw [List.getElem?_eq_none (by simpa using hi)]; simp [hi]
  · apply List.ext_getElem?; intro i
    rw [List.getElem?_map, List.getElem?_replicate]
    by_cases hi : i < r.l.length
    · rw [List.getElem?_range hi]; simp [hi]
    · rw [List.getElem?_eq_none (by simpa using hi)]; simp [hi]

theorem upto_all (r : Rcv) (hg : r.Good) : r.upto r.l.length = ⟨r.ses, r.epo, r.l, r.c, zeros20⟩ := by
  unfold Rcv.upto
  congr 1
  · apply List.ext_getElem?; intro i
    rw [List.getElem?_map]
    by_cases hi : i < r.l.length
    · rw [List.getElem?_range hi, List.getElem?_eq_getElem hi]; simp [hi, at']
    · rw [List.getElem?_eq_none (by simpa using hi), List.getElem?_eq_none (by omega)]; rfl
  · apply List.ext_getElem?; intro i
    rw [List.getElem?_map]
    by_cases hi : i < r.l.length
    · have hc : i < r.c.length := by rw [hg.len]; exact hi
      rw [List.getElem?_range hi, List.getElem?_eq_getElem hc]; simp [hi, hc]
    · rw [List.getElem?_eq_none (by simpa using hi), List.getElem?_eq_none (by rw [hg.len]; omega)]; rfl

theorem resumeL_forth (r : Rcv) (hg : r.Good) (m : Nat) : ∀ j k last, j + m = r.l.length → last < (j : Int) → m < k →
    resumeL k (mkB (chunksB r.l r.c j m ++ numB r.l.length)) last r.l.length (r.upto j) = (some (r.upto r.l.length), 0) := by
  have hn := hg.high
  induction m with
  | zero =>
    intro j k last hj hlast hk
    obtain ⟨k, rfl⟩ : ∃ q, k = q + 1 := ⟨k - 1, by omega⟩
    have := uint_read0 r.l.length [] (by omega)
    rw [List.append_nil] at this
    rw [chunksB, List.nil_append, resumeL, this]
    have hj0 : j = r.l.length := by omega
    subst hj0
    simp [ByteArray.size]
  | succ m ih =>
    intro j k last hj hlast hk
    rw [chunksB]
    by_cases h : at' r.l j = true
    · rw [if_pos h]
      obtain ⟨k, rfl⟩ : ∃ q, k = q + 1 := ⟨k - 1, by omega⟩
      have e1 : (numB j ++ textB (r.c.getD j noText) ++ chunksB r.l r.c (j + 1) m ++ numB r.l.length) = numB j ++ (textB (r.c.getD j noText) ++ (chunksB r.l r.c (j + 1) m ++ numB r.l.length)) := by simp [List.append_assoc]
      rw [e1, resumeL, uint_read0 _ _ (by omega)]
      dsimp only
      rw [text_read0 _ _ (hg.most j)]
      dsimp only
      rw [if_neg (by simp), if_neg (by omega), if_neg (by omega), if_neg (by omega), if_neg (by simp), upto_put r j (by omega) h]
      exact ih (j + 1) k j (by omega) (by omega) (by omega)
    · have h0 : at' r.l j = false := by simpa using h
      rw [if_neg h, List.nil_append, ← upto_same r hg j h0]
      exact ih (j + 1) k last (by omega) (by omega) (by omega)

/-- What Resume makes of a cursor. -/
theorem resumeR_forth (r : Rcv) (hg : r.Good) : resumeR (mkB (cursorL r)) = (some ⟨r.ses, r.epo, r.l, r.c, zeros20⟩, 0) := by
  have h1 := hg.ses
  have h2 := hg.epo
  have h3 := hg.high
  have h4 := hg.low
  unfold resumeR cursorL
  simp only [uint_read0 _ _ (show r.ses < 2 ^ 64 by omega), uint_read0 _ _ (show r.epo < 2 ^ 64 by omega), uint_read0 _ _ (show r.l.length < 2 ^ 64 by omega)]
  unfold resumeM
  rw [if_neg (by simp), if_neg (by unfold May14; rw [Decidable.not_not]; omega), ← upto_zero, resumeL_forth r hg r.l.length 0 258 (-1) (by omega) (by omega) (by omega), upto_all r hg]

end Go.Proofs.Ytffcambjdlkfbaa
