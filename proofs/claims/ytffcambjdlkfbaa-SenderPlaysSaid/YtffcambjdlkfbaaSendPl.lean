/- Plain laws of a sender (what is due, what a tick does to the counts), with no program in sight. -/
import Derived.Test.YtffcambjdlkfbaaPlain
namespace Go.Proofs.Ytffcambjdlkfbaa

/-- A sender as a datum: its session and epoch, its chunks, which of them are there, how often and at which tick each was sent, how many ticks there were, whether it was lost. -/
structure Snd where
  ses : Int
  epo : Int
  c : List ByteArray
  l : List Bool
  tr : List Int
  at_ : List Int
  now : Int
  lost : Bool

structure Snd.Ok (σ : Snd) : Prop where
  n1 : 1 ≤ σ.c.length
  n2 : σ.c.length ≤ 256
  ll : σ.l.length = σ.c.length
  lt : σ.tr.length = σ.c.length
  la : σ.at_.length = σ.c.length
  trOk : ∀ i, 0 ≤ σ.tr.getD i 0 ∧ σ.tr.getD i 0 ≤ 8
  atOk : ∀ i, 0 ≤ σ.at_.getD i 0 ∧ σ.at_.getD i 0 ≤ 1000000
  nowOk : 0 ≤ σ.now ∧ σ.now ≤ 1000000

/-- Is chunk i, which is missing, to be sent at this tick? -/
def keepS (tr at_ : List Int) (now : Int) (i : Int) : Bool := !(decide (0 < tr.getD i.toNat 0) && decide (now - at_.getD i.toNat 0 < 4))

/-- What is due, of those up to the k-th. -/
def dueTo (l : List Bool) (tr at_ : List Int) (now : Int) (k : Nat) : List Int := (missTo l (baseL l) ((baseL l : Int) + 8) k).filter (keepS tr at_ now)
def dueL (l : List Bool) (tr at_ : List Int) (now : Int) : List Int := (missL l (baseL l) ((baseL l : Int) + 8)).filter (keepS tr at_ now)

theorem dueTo_succ (l : List Bool) (tr at_ : List Int) (now : Int) (k : Nat) : dueTo l tr at_ now (k + 1) = dueTo l tr at_ now k ++
    if (baseL l : Int) ≤ (k : Int) ∧ (k : Int) < (baseL l : Int) + 8 ∧ at' l k = false ∧ keepS tr at_ now k = true then [(k : Int)] else [] := by
  unfold dueTo
  rw [missTo_succ, List.filter_append]
  congr 1
  by_cases h : (baseL l : Int) ≤ (k : Int) ∧ (k : Int) < (baseL l : Int) + 8 ∧ at' l k = false
  · rw [if_pos h]
    cases e : keepS tr at_ now k with
    | true => rw [if_pos ⟨h.1, h.2.1, h.2.2, rfl⟩]; simp [e]
    | false => rw [if_neg (by simp)]; simp [e]
  · rw [if_neg h, if_neg (fun h' => h ⟨h'.1, h'.2.1, h'.2.2.1⟩)]; rfl

theorem dueTo_low (l : List Bool) (tr at_ : List Int) (now : Int) : dueTo l tr at_ now (baseL l) = [] := by
  unfold dueTo
  rw [missTo_low l _ _ _ (Or.inl (Int.le_refl _))]; rfl

theorem dueTo_high (l : List Bool) (tr at_ : List Int) (now : Int) (k : Nat) (h : (baseL l : Int) + 8 ≤ (k : Int)) (hk : k ≤ l.length) : dueTo l tr at_ now k = dueL l tr at_ now := by
  unfold dueTo dueL missL
  have := missTo_high l (baseL l) _ k h (l.length - k)
  rw [show k + (l.length - k) = l.length from by omega] at this
  rw [this]

theorem dueTo_whole (l : List Bool) (tr at_ : List Int) (now : Int) : dueTo l tr at_ now l.length = dueL l tr at_ now := rfl

theorem missTo_mem (l : List Bool) (a b : Int) (k : Nat) (x : Int) (h : x ∈ missTo l a b k) : ∃ i : Nat, x = i ∧ i < k := by
  unfold missTo at h
  obtain ⟨i, hi, rfl⟩ := List.mem_map.1 h
  exact ⟨i, rfl, by have := (List.mem_filter.1 hi).1; simpa using this⟩

theorem dueL_mem (l : List Bool) (tr at_ : List Int) (now x : Int) (h : x ∈ dueL l tr at_ now) : ∃ i : Nat, x = i ∧ i < l.length :=
  missTo_mem l _ _ _ x (List.mem_filter.1 h).1

theorem dueTo_length (l : List Bool) (tr at_ : List Int) (now : Int) (k : Nat) : (dueTo l tr at_ now k).length ≤ k :=
  Nat.le_trans (List.length_filter_le _ _) (missTo_length l _ _ k)
theorem dueL_length (l : List Bool) (tr at_ : List Int) (now : Int) : (dueL l tr at_ now).length ≤ l.length := dueTo_length l tr at_ now l.length

theorem missTo_nodup (l : List Bool) (a b : Int) (k : Nat) : (missTo l a b k).Nodup := by
  unfold missTo
  refine List.Pairwise.map _ ?_ (List.Pairwise.filter _ List.nodup_range)
  intro x y h e
  exact h (by injection e)

theorem dueL_nodup (l : List Bool) (tr at_ : List Int) (now : Int) : (dueL l tr at_ now).Nodup := List.Pairwise.filter _ (missTo_nodup l _ _ _)

/-- The counts behind those that were sent. -/
def trF (tr : List Int) (ds : List Int) : List Int := ds.foldl (fun t i => t.set i.toNat (t.getD i.toNat 0 + 1)) tr
def atF (at_ : List Int) (now : Int) (ds : List Int) : List Int := ds.foldl (fun t i => t.set i.toNat now) at_

theorem trF_length (ds : List Int) : ∀ tr : List Int, (trF tr ds).length = tr.length := by
  induction ds with
  | nil => intro tr; rfl
  | cons d r ih => intro tr; unfold trF at ih ⊢; rw [List.foldl_cons, ih]; simp
theorem atF_length (now : Int) (ds : List Int) : ∀ tr : List Int, (atF tr now ds).length = tr.length := by
  induction ds with
  | nil => intro tr; rfl
  | cons d r ih => intro tr; unfold atF at ih ⊢; rw [List.foldl_cons, ih]; simp

theorem trF_snoc (tr ds : List Int) (d : Int) : trF tr (ds ++ [d]) = (trF tr ds).set d.toNat ((trF tr ds).getD d.toNat 0 + 1) := by unfold trF; rw [List.foldl_append]; rfl
theorem atF_snoc (at_ ds : List Int) (now d : Int) : atF at_ now (ds ++ [d]) = (atF at_ now ds).set d.toNat now := by unfold atF; rw [List.foldl_append]; rfl

theorem getD_set (t : List Int) (i j : Nat) (v : Int) : (t.set i v).getD j 0 = if i = j ∧ i < t.length then v else t.getD j 0 := by
  rw [List.getD_eq_getElem?_getD, List.getElem?_set, List.getD_eq_getElem?_getD]
  by_cases h : i = j
  · subst h
    by_cases h2 : i < t.length
    · simp [h2]
    · simp [h2]
  · simp [h]

theorem trF_other (ds : List Int) : ∀ (tr : List Int) (j : Nat), (∀ d ∈ ds, d.toNat ≠ j) → (trF tr ds).getD j 0 = tr.getD j 0 := by
  induction ds with
  | nil => intro tr j _; rfl
  | cons d r ih =>
    intro tr j h
    have := ih (tr.set d.toNat (tr.getD d.toNat 0 + 1)) j (fun x hx => h x (by simp [hx]))
    unfold trF at this ⊢
    rw [List.foldl_cons, this, getD_set, if_neg (fun e => h d (by simp) e.1)]

/-- Each count rises by one at most. -/
theorem trF_range (ds : List Int) : ∀ (tr : List Int), ds.Nodup → (∀ d ∈ ds, 0 ≤ d) → (∀ i, 0 ≤ tr.getD i 0 ∧ tr.getD i 0 ≤ 8) → (∀ d ∈ ds, tr.getD d.toNat 0 < 8) → ∀ i, 0 ≤ (trF tr ds).getD i 0 ∧ (trF tr ds).getD i 0 ≤ 8 := by
  induction ds with
  | nil => intro tr _ _ h _ i; exact h i
  | cons d r ih =>
    intro tr hn h0 hr hl i
    rw [List.nodup_cons] at hn
    have hd := hr d.toNat
    have hdl := hl d (by simp)
    refine ih (tr.set d.toNat (tr.getD d.toNat 0 + 1)) hn.2 (fun x hx => h0 x (by simp [hx])) (fun j => ?_) (fun x hx => ?_) i
    · rw [getD_set]
      split
      · omega
      · exact hr j
    · rw [getD_set, if_neg]
      · exact hl x (by simp [hx])
      · intro e
        have hd0 := h0 d (by simp)
        have hx0 := h0 x (by simp [hx])
        have : d = x := by omega
        exact hn.1 (this ▸ hx)

theorem atF_range (now : Int) (hn : 0 ≤ now ∧ now ≤ 1000000) (ds : List Int) : ∀ (t : List Int), (∀ i, 0 ≤ t.getD i 0 ∧ t.getD i 0 ≤ 1000000) → ∀ i, 0 ≤ (atF t now ds).getD i 0 ∧ (atF t now ds).getD i 0 ≤ 1000000 := by
  induction ds with
  | nil => intro t h i; exact h i
  | cons d r ih =>
    intro t h i
    refine ih (t.set d.toNat now) (fun j => ?_) i
    rw [getD_set]
    split
    · exact hn
    · exact h j

/-- What a tick does, and says: an error's number; whether frames go out. -/
def lostB (tr : List Int) (ds : List Int) : Bool := ds.any fun i => decide (8 ≤ tr.getD i.toNat 0)

theorem take_succ_get (ds : List Int) (k : Nat) (h : k < ds.length) : ds.take (k + 1) = ds.take k ++ [ds.getD k 0] := by
  rw [List.take_succ_eq_append_getElem h, List.getD_eq_getElem?_getD, List.getElem?_eq_getElem h]; rfl

structure Tk where
  err : Int
  due : List Int
  s : Snd

/-- A tick. -/
def tickS (σ : Snd) : Tk :=
  if baseL σ.l = σ.l.length then ⟨15, [], σ⟩ else
  if σ.lost then ⟨16, [], σ⟩ else
  let ds := dueL σ.l σ.tr σ.at_ (σ.now + 1)
  if lostB σ.tr ds then ⟨16, [], { σ with now := σ.now + 1, lost := true }⟩ else
  ⟨0, ds, { σ with now := σ.now + 1, tr := trF σ.tr ds, at_ := atF σ.at_ (σ.now + 1) ds }⟩

theorem tickS_ok (σ : Snd) (h : σ.Ok) (hn : σ.now ≤ 999999) : (tickS σ).s.Ok ∧ (tickS σ).s.c = σ.c ∧ (tickS σ).s.now ≤ σ.now + 1 ∧ (tickS σ).s.ses = σ.ses ∧ (tickS σ).s.epo = σ.epo ∧ (tickS σ).s.l = σ.l := by
  have hnow := h.nowOk
  unfold tickS
  split
  · exact ⟨h, rfl, by dsimp only; omega, rfl, rfl, rfl⟩
  · split
    · exact ⟨h, rfl, by dsimp only; omega, rfl, rfl, rfl⟩
    · dsimp only
      split
      · exact ⟨⟨h.n1, h.n2, h.ll, h.lt, h.la, h.trOk, h.atOk, by dsimp only; omega⟩, rfl, by dsimp only; omega, rfl, rfl, rfl⟩
      · rename_i hl
        have hall : ∀ d ∈ dueL σ.l σ.tr σ.at_ (σ.now + 1), σ.tr.getD d.toNat 0 < 8 := by
          intro d hd
          rcases Int.lt_or_le (σ.tr.getD d.toNat 0) 8 with h8 | h8
          · exact h8
          · exfalso
            apply hl
            unfold lostB
            exact List.any_eq_true.2 ⟨d, hd, by simpa using h8⟩
        have h0 : ∀ d ∈ dueL σ.l σ.tr σ.at_ (σ.now + 1), 0 ≤ d := fun d hd => by
          obtain ⟨i, rfl, _⟩ := dueL_mem _ _ _ _ d hd; omega
        exact ⟨⟨h.n1, h.n2, h.ll, by dsimp only; rw [trF_length]; exact h.lt, by dsimp only; rw [atF_length]; exact h.la,
          trF_range _ _ (dueL_nodup _ _ _ _) h0 h.trOk hall, atF_range _ (by omega) _ _ h.atOk, by dsimp only; omega⟩, rfl, by dsimp only; omega, rfl, rfl, rfl⟩

/-- An answer is heard. -/
def ackErr (σ : Snd) (kind ses epo idx tot : Int) : Int :=
  if kind ≠ 2 then 1 else if ses ≠ σ.ses then 12 else if epo ≠ σ.epo then 13 else if tot ≠ σ.c.length ∨ idx < 0 ∨ tot < idx then 14 else 0
def ackS (σ : Snd) (kind ses epo idx tot : Int) (s : ByteArray) : Snd :=
  if ackErr σ kind ses epo idx tot = 0 then { σ with l := laid σ.l (toldAt idx s) σ.l.length } else σ

theorem ackS_ok (σ : Snd) (h : σ.Ok) (kind ses epo idx tot : Int) (s : ByteArray) : (ackS σ kind ses epo idx tot s).Ok ∧ (ackS σ kind ses epo idx tot s).c = σ.c ∧ (ackS σ kind ses epo idx tot s).now = σ.now := by
  unfold ackS
  split
  · exact ⟨⟨h.n1, h.n2, by dsimp only; rw [laid_length]; exact h.ll, h.lt, h.la, h.trOk, h.atOk, h.nowOk⟩, rfl, rfl⟩
  · exact ⟨h, rfl, rfl⟩
end Go.Proofs.Ytffcambjdlkfbaa
