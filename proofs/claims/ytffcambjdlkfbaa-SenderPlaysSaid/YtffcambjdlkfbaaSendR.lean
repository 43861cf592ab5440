/- A sender and its reference side by side: what the law SenderPlays asks of them, call by call. -/
import Derived.Test.YtffcambjdlkfbaaSendQ
namespace Go.Proofs.Ytffcambjdlkfbaa
open Go.RowKit

/-- The sender at β and the reference's at ρ both read as σ; nothing of w0 is turned. -/
structure Duo (w0 : World) (β : SBlk) (ρ : RBlk) (σ : Snd) (w : World) : Prop where
  s : SndAt w β σ
  r : RSndAt w ρ σ
  ok : σ.Ok
  nb : β.all.Nodup
  nr : ρ.all.Nodup
  dis : ∀ x ∈ β.all, x ∉ ρ.all
  geb : ∀ x ∈ β.all, w0.heap.size ≤ x
  ger : ∀ x ∈ ρ.own, w0.heap.size ≤ x
  k : Keeps [] w0 w

theorem Duo.keeps {w0 : World} {β : SBlk} {ρ : RBlk} {σ : Snd} {w w' : World} (d : Duo w0 β ρ σ w) (k : Keeps [] w w') : Duo w0 β ρ σ w' :=
  ⟨d.s.quiet k, d.r.quiet k, d.ok, d.nb, d.nr, d.dis, d.geb, d.ger, d.k.trans k⟩
theorem Duo.drew {w0 : World} {β : SBlk} {ρ : RBlk} {σ : Snd} {w : World} (d : Duo w0 β ρ σ w) : Duo w0 β ρ σ w.drew := d.keeps ((Keeps.refl [] w).drew)

theorem SBlk.foot_all {β : SBlk} (x : Nat) (hx : x ∈ β.foot) : x ∈ β.all := by unfold SBlk.foot at hx; unfold SBlk.all; simp at hx ⊢; omega
theorem RBlk.foot_all {ρ : RBlk} (x : Nat) (hx : x ∈ ρ.foot) : x ∈ ρ.all := by unfold RBlk.foot at hx; unfold RBlk.all; simp at hx ⊢; omega
theorem RBlk.foot_own {ρ : RBlk} (x : Nat) (hx : x ∈ ρ.foot) : x ∈ ρ.own := by unfold RBlk.foot at hx; unfold RBlk.own; simp at hx ⊢; omega

theorem duo_tick {w0 w w1 w2 : World} {β : SBlk} {ρ : RBlk} {σ : Snd} {v u : Value} (d : Duo w0 β ρ σ w) (hn : σ.now ≤ 999999)
    (h1 : w1.ownsRow w.heap.size 54 6 v (tickS σ).due.length (framesV σ (tickS σ).due)) (s1 : SndAt w1 β (tickS σ).s) (k1 : Keeps β.foot w w1)
    (h2 : w2.ownsRow w1.heap.size 54 6 u (tickS σ).due.length (framesV σ (tickS σ).due)) (r2 : RSndAt w2 ρ (tickS σ).s) (k2 : Keeps ρ.foot w1 w2) :
    Duo w0 β ρ (tickS σ).s w2 ∧ FrsAt w2 v σ (tickS σ).due ∧ FrsAt w2 u σ (tickS σ).due := by
  have hok := tickS_ok σ d.ok hn
  have hne : ∀ g, v.ownBlock = some g → g ∉ ρ.foot := fun g hg hm => by
    have h3 := (h1.lt g hg).1
    have h4 := d.r.all_lt d.ok g (RBlk.foot_all g hm)
    omega
  refine ⟨⟨s1.keeps k2 (fun x hx hm => d.dis x hx (RBlk.foot_all x hm)), r2, hok.1, d.nb, d.nr, d.dis, d.geb, d.ger, ?_⟩, FrsAt.of_owns (k2.owns h1 hne), FrsAt.of_owns h2⟩
  exact (d.k.then k1 (fun i hi => Or.inr (d.geb i (SBlk.foot_all i hi)))).then k2 (fun i hi => Or.inr (d.ger i (RBlk.foot_own i hi)))

theorem duo_r1 {w0 w w1 : World} {β : SBlk} {ρ : RBlk} {σ : Snd} (d : Duo w0 β ρ σ w) (k1 : Keeps β.foot w w1) : RSndAt w1 ρ σ := d.r.keeps k1 (fun x hx hm => d.dis x (SBlk.foot_all x hm) hx)

theorem duo_ack {w0 w w1 w2 : World} {β : SBlk} {ρ : RBlk} {σ σ' : Snd} {gi ci : Nat} (d : Duo w0 β ρ σ w) (ho : σ'.Ok) (s1 : SndAt w1 β σ') (k1 : Keeps [β.bm] w w1) (r2 : RSndAt w2 { ρ with gi := gi, ci := ci } σ')
    (hg : gi = ρ.gi ∨ w1.heap.size ≤ gi) (k2 : Keeps [ρ.b] w1 w2) : Duo w0 β { ρ with gi := gi, ci := ci } σ' w2 := by
  have hlt : ∀ x ∈ β.all, x < w1.heap.size := fun x hx => by have h1 := d.s.all_lt d.ok x hx; have h2 := k1.size; omega
  have hlr : ∀ x ∈ ρ.all, x < w1.heap.size := fun x hx => by have h1 := d.r.all_lt d.ok x hx; have h2 := k1.size; omega
  have hbr : ρ.b ∈ ρ.all := by unfold RBlk.all; simp
  have hbm : β.bm ∈ β.all := by unfold SBlk.all; simp
  have hbo : ρ.b ∈ ρ.own := by unfold RBlk.own; simp
  have hnew : ∀ x, x ∈ RBlk.all { ρ with gi := gi, ci := ci } → x ∈ ρ.all ∨ (x = gi ∧ w1.heap.size ≤ gi) := fun x hx => by
    unfold RBlk.all at hx ⊢
    simp only [List.mem_cons, List.not_mem_nil, or_false] at hx ⊢
    rcases hg with rfl | hg
    · exact Or.inl hx
    · rcases hx with h | h | h | h | h
      · exact Or.inl (Or.inl h)
      · exact Or.inr ⟨h, hg⟩
      · exact Or.inl (by simp [h])
      · exact Or.inl (by simp [h])
      · exact Or.inl (by simp [h])
  refine ⟨s1.keeps k2 (fun x hx hm => by simp at hm; subst hm; exact d.dis _ hx hbr), r2, ho, d.nb, ?_, fun x hx hm => ?_, d.geb, fun x hx => ?_, ?_⟩
  · rcases hg with rfl | hg
    · exact d.nr
    · obtain ⟨⟨h1, h2, h3, h4⟩, ⟨h5, h6, h7⟩, ⟨h8, h9⟩, h10⟩ := RBlk.nd d.nr
      have l1 := hlr ρ.b hbr
      have l2 := hlr ρ.gt (by unfold RBlk.all; simp)
      have l3 := hlr ρ.ga (by unfold RBlk.all; simp)
      have l4 := hlr ρ.gx (by unfold RBlk.all; simp)
      unfold RBlk.all
      simp only [List.nodup_cons, List.mem_cons, List.not_mem_nil, not_or, or_false, List.nodup_nil, and_true, not_false_eq_true]
      omega
  · rcases hnew x hm with h | ⟨rfl, h⟩
    · exact d.dis x hx h
    · have := hlt x hx; omega
  · unfold RBlk.own at hx
    simp only [List.mem_cons, List.not_mem_nil, or_false] at hx
    have g0 := d.ger
    unfold RBlk.own at g0
    have hsz := d.k.size
    have hs1 := k1.size
    rcases hx with rfl | rfl | rfl | rfl
    · exact g0 _ (by simp)
    · rcases hg with rfl | hg
      · exact g0 _ (by simp)
      · omega
    · exact g0 _ (by simp)
    · exact g0 _ (by simp)
  · exact (d.k.then k1 (fun i hi => Or.inr (by simp at hi; subst hi; exact d.geb _ hbm))).then k2 (fun i hi => Or.inr (by simp at hi; subst hi; exact d.ger _ hbo))

section
variable {w0 : World} {β : SBlk} {ρ : RBlk} {σ : Snd} {w : World} (h : w.cell? ⟨ρ.b, 3, none⟩ = some (bslice ρ.gi ρ.ci σ.l) ∧ Duo w0 β ρ σ w)
include h
theorem seen_keeps {w' : World} (k : Keeps [] w w') : w'.cell? ⟨ρ.b, 3, none⟩ = some (bslice ρ.gi ρ.ci σ.l) ∧ Duo w0 β ρ σ w' := ⟨k.cell (by simp) h.1, h.2.keeps k⟩
theorem err21 (E : Int) (hE : errOf σ = E) : Calls Try.prog 36 #[ptr β.b] w fun e w' => e = .returned (.int .i64 E) ∧ (w'.cell? ⟨ρ.b, 3, none⟩ = some (bslice ρ.gi ρ.ci σ.l) ∧ Duo w0 β ρ σ w') := by
  subst hE; exact (sErr_any β σ w h.2.s).mono fun e w' ⟨h1, h2⟩ => ⟨h1, seen_keeps h h2⟩
theorem rerr21 (E : Int) (hE : errOf σ = E) : Calls Try.prog 37 #[ptr ρ.b] w fun e w' => e = .returned (.int .i64 E) ∧ (w'.cell? ⟨ρ.b, 3, none⟩ = some (bslice ρ.gi ρ.ci σ.l) ∧ Duo w0 β ρ σ w') := by
  subst hE; exact (rsErr_any ρ σ w h.2.r h.2.ok).mono fun e w' ⟨h1, h2⟩ => ⟨h1, seen_keeps h h2⟩
theorem done21 (q : Bool) (hq : (baseL σ.l == σ.l.length) = q) : Calls Try.prog 38 #[ptr β.b] w fun e w' => e = .returned (.bool q) ∧ (w'.cell? ⟨ρ.b, 3, none⟩ = some (bslice ρ.gi ρ.ci σ.l) ∧ Duo w0 β ρ σ w') := by
  subst hq; exact (sDone_any β σ w h.2.s).mono fun e w' ⟨h1, h2⟩ => ⟨h1, seen_keeps h h2⟩
theorem rbase21 (B : Int) (hB : (baseL σ.l : Int) = B) : Calls Try.prog 16 #[bslice ρ.gi ρ.ci σ.l] w fun e w' => e = .returned (.int .i64 B) ∧ w = w' := by
  subst hB; exact rbase_any _ _ _ w h.2.r.bools
theorem there21 : Calls Try.prog 39 #[ptr β.b] w fun e w' => ∃ m, e = .returned (ptr m) ∧ MapAt w' m σ.l ∧ (w'.cell? ⟨ρ.b, 3, none⟩ = some (bslice ρ.gi ρ.ci σ.l) ∧ Duo w0 β ρ σ w') :=
  (sThere_any β σ w h.2.s).mono fun _ _ ⟨h1, h2, h3, _⟩ => ⟨_, h1, h2, seen_keeps h h3⟩
theorem rcount21 (C : Int) (hC : (countL σ.l : Int) = C) : Calls Try.prog 18 #[bslice ρ.gi ρ.ci σ.l] w fun e w' => e = .returned (.int .i64 C) ∧ w = w' := by
  subst hC; exact rcount_any _ _ _ w h.2.r.bools
end
end Go.Proofs.Ytffcambjdlkfbaa
