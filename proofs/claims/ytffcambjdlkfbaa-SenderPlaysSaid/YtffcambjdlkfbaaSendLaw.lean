/- The law SenderPlays holds: of every session, epoch, chunks and list of calls the Go function returns true, and each argument reads afterwards as it read before. No condition. -/
import Derived.Test.YtffcambjdlkfbaaRows
import Derived.Test.YtffcambjdlkfbaaSendU
import Derived.Test.YtffcambjdlkfbaaSackLaw
import Derived.ProofKit
import Derived.OpenShut
import Derived.ChangeOld
import Derived.Below
import Derived.Deep.Slices
namespace Go.Proofs.Ytffcambjdlkfbaa
open Go.ChangeShapes Go.WideShapes Go.ChangeAt Go.RowKit Go.Deep

theorem Try.cells54 : Try.prog.cellsOf 54 = 6 := by kernel_rfl
theorem Try.cells56 : Try.prog.cellsOf 56 = 7 := by kernel_rfl

theorem list7 {α : Type} (l : List α) (h : l.length = 7) : ∃ a b c d e f g, l = [a, b, c, d, e, f, g] := by
  match l, h with
  | [a, b, c, d, e, f, g], _ => exact ⟨a, b, c, d, e, f, g, rfl⟩

/-- One frame's six cells. -/
theorem open_frame {H : Type} {enc : TypeId × Value → H} {W : World} {n : Nat} {c0 c1 c2 c3 c4 c5 : Value} {d : DataW H × List MemPlace} {b : Nat} {sp : Nat → Bool} {held : Bool}
    (h : DataW.trod enc Try.prog W b sp held n 54 [c0, c1, c2, c3, c4, c5] = some d) : ∃ (x0 x1 x2 x3 x4 : Int) (s : ByteArray), [c0, c1, c2, c3, c4, c5] = [.int .i64 x0, .int .i64 x1, .int .i64 x2, .int .i64 x3, .int .i64 x4, .string s] := by
  obtain ⟨xs, m, _, _, hlen, hxl, hf⟩ := DataW.trod_struct Try.underlying54 h
  have f0 := hf 0 _ rfl
  have f1 := hf 1 _ rfl
  have f2 := hf 2 _ rfl
  have f3 := hf 3 _ rfl
  have f4 := hf 4 _ rfl
  have f5 := hf 5 _ rfl
  have hx : ∀ i, i < 6 → ∃ y, xs[i]? = some y := fun i hi => ⟨_, List.getElem?_eq_getElem (by rw [hxl]; exact hi)⟩
  obtain ⟨y0, e0⟩ := hx 0 (by omega)
  obtain ⟨y1, e1⟩ := hx 1 (by omega)
  obtain ⟨y2, e2⟩ := hx 2 (by omega)
  obtain ⟨y3, e3⟩ := hx 3 (by omega)
  obtain ⟨y4, e4⟩ := hx 4 (by omega)
  obtain ⟨y5, e5⟩ := hx 5 (by omega)
  rw [e0] at f0
  rw [e1] at f1
  rw [e2] at f2
  rw [e3] at f3
  rw [e4] at f4
  rw [e5] at f5
  simp [Try.cells3, Try.cells9] at f0 f1 f2 f3 f4 f5
  obtain ⟨x0, a0, _, _⟩ := DataW.trod_int Try.underlying3 f0
  obtain ⟨x1, a1, _, _⟩ := DataW.trod_int Try.underlying3 f1
  obtain ⟨x2, a2, _, _⟩ := DataW.trod_int Try.underlying3 f2
  obtain ⟨x3, a3, _, _⟩ := DataW.trod_int Try.underlying3 f3
  obtain ⟨x4, a4, _, _⟩ := DataW.trod_int Try.underlying3 f4
  obtain ⟨s, a5, _, _⟩ := DataW.trod_string Try.underlying9 f5
  simp only [List.cons.injEq, and_true] at a0 a1 a2 a3 a4 a5
  exact ⟨x0, x1, x2, x3, x4, s, by rw [a0, a1, a2, a3, a4, a5]⟩

/-- One call's seven cells. -/
theorem open_op13 {H : Type} {enc : TypeId × Value → H} {W : World} {n : Nat} {cs : List Value} {d : DataW H × List MemPlace} {b : Nat} {sp : Nat → Bool} {held : Bool}
    (h : DataW.trod enc Try.prog W b sp held n 56 cs = some d) : ∃ x : Op13, cs = x.cells := by
  obtain ⟨xs, m, _, _, hlen, hxl, hf⟩ := DataW.trod_struct Try.underlying56 h
  rw [Try.cells56] at hlen
  obtain ⟨c0, c1, c2, c3, c4, c5, c6, rfl⟩ := list7 cs hlen
  have f0 := hf 0 _ rfl
  have f1 := hf 1 _ rfl
  have hx : ∀ i, i < 2 → ∃ y, xs[i]? = some y := fun i hi => ⟨_, List.getElem?_eq_getElem (by rw [hxl]; exact hi)⟩
  obtain ⟨y0, e0⟩ := hx 0 (by omega)
  obtain ⟨y1, e1⟩ := hx 1 (by omega)
  rw [e0] at f0
  rw [e1] at f1
  simp [Try.cells3, Try.cells54] at f0 f1
  obtain ⟨k, a0, _, _⟩ := DataW.trod_int Try.underlying3 f0
  obtain ⟨x0, x1, x2, x3, x4, s, a1⟩ := open_frame f1
  simp only [List.cons.injEq, and_true] at a0 a1
  obtain ⟨b0, b1, b2, b3, b4, b5⟩ := a1
  exact ⟨⟨k, x0, x1, x2, x3, x4, s⟩, by unfold Op13.cells; rw [a0, b0, b1, b2, b3, b4, b5]⟩

theorem isStrs_of {H : Type} {enc : TypeId × Value → H} {W : World} {a : Option Addr} {len cap : Nat} {d : DataW H} {p : List MemPlace}
    (h : DataW.Trod enc Try.prog W 0 (fun _ => true) true 44 (.slice a len cap) d p) : IsStrs W a len cap := by
  obtain ⟨fuel, hf⟩ := h
  rcases open_slice Try.underlying44 hf with ⟨hcs, _⟩ | ⟨x, l, c, m, n, D, Pl, hcs, _, hl, hm, hmm, _, hi⟩
  · simp [Value.cells] at hcs
    exact .inl hcs.2.1
  · simp [Value.cells] at hcs
    obtain ⟨rfl, rfl, rfl⟩ := hcs
    by_cases h0 : len = 0
    · exact .inl h0
    have hmc : m = cap := by simpa using hmm
    rw [Try.cells9] at hi
    obtain ⟨g, o, spot⟩ := x
    have hstr : ∀ i, i < len → ∃ s : ByteArray, W.cell? ((⟨g, o, spot⟩ : Addr).add (i * 1)) = some (.string s) := fun i hil => by
      obtain ⟨cs, hc, ht⟩ := hi i (by omega)
      obtain ⟨s, a0, _, _⟩ := DataW.trod_string Try.underlying9 ht
      subst a0
      obtain ⟨_, _, hat⟩ := World.cells?_some hc
      have := hat 0 (by simp)
      exact ⟨s, by simpa [Addr.add] using this⟩
    obtain ⟨s0, hs0⟩ := hstr 0 (by omega)
    simp [Addr.add] at hs0
    have hspot : spot = none := World.cell?_spot hs0
    subst hspot
    obtain ⟨c, hcl, hcs⟩ := choose_list (fun i (s : ByteArray) => W.cell? ⟨g, o + i, none⟩ = some (.string s)) len (fun i hil => by
      obtain ⟨s, hs⟩ := hstr i hil
      rw [addr_add, Nat.mul_one] at hs
      exact ⟨s, hs⟩)
    exact .inr ⟨g, o, c, rfl, hcl.symm, hl, by unfold maxLen at hm; omega, fun i s hs => hcs i s hs⟩

theorem isList_of {H : Type} {enc : TypeId × Value → H} {W : World} {a : Option Addr} {len cap : Nat} {d : DataW H} {p : List MemPlace}
    (h : DataW.Trod enc Try.prog W 0 (fun _ => true) true 45 (.slice a len cap) d p) : IsList W a len ∧ len ≤ cap ∧ cap ≤ 9223372036854775807 := by
  obtain ⟨fuel, hf⟩ := h
  rcases open_slice Try.underlying45 hf with ⟨hcs, _⟩ | ⟨x, l, c, m, n, D, Pl, hcs, _, hl, hm, hmm, _, hi⟩
  · simp [Value.cells] at hcs
    obtain ⟨_, rfl, rfl⟩ := hcs
    exact ⟨⟨[], rfl, .inl rfl⟩, by omega, by omega⟩
  · simp [Value.cells] at hcs
    obtain ⟨rfl, rfl, rfl⟩ := hcs
    have hmc : m = cap := by simpa using hmm
    refine ⟨?_, hl, by unfold maxLen at hm; omega⟩
    by_cases h0 : len = 0
    · subst h0; exact ⟨[], rfl, .inl rfl⟩
    rw [Try.cells56] at hi
    obtain ⟨g, o, spot⟩ := x
    obtain ⟨cs0, hc0, ht0⟩ := hi 0 (by omega)
    obtain ⟨x0, rfl⟩ := open_op13 ht0
    obtain ⟨_, _, hat0⟩ := World.cells?_some hc0
    have h00 := hat0 0 (by simp)
    simp [Addr.add, Op13.cells] at h00
    have hspot : spot = none := World.cell?_spot h00
    subst hspot
    obtain ⟨ops, hol, hops⟩ := choose_list (fun i (x : Op13) => ∀ j u, x.cells[j]? = some u → W.cell? ⟨g, o + i * 7 + j, none⟩ = some u) len (fun i hil => by
      obtain ⟨cs, hc, ht⟩ := hi i (by omega)
      obtain ⟨x, rfl⟩ := open_op13 ht
      obtain ⟨_, _, hat⟩ := World.cells?_some hc
      rw [addr_add] at hat
      refine ⟨x, fun j u hu => ?_⟩
      have hj := (List.getElem?_eq_some_iff.1 hu).1
      have := hat j (by simpa [Op13.cells] using hj)
      rw [addr_add] at this
      rw [this]; exact hu)
    exact ⟨ops, hol.symm, .inr ⟨g, o, rfl, fun i x hx => hops i x hx⟩⟩

set_option maxRecDepth 100000 in
theorem sender_lifted (os : Os) (started : os.Started) (H : Type) (enc : TypeId × Value → H) :
    ReturnsInHanded {} Try.checked os 4 .any (Rows.senderPlaysSpec.pre6 enc Try.prog Try.f4 Rows.senderPlaysRow.domain false) (Rows.senderPlaysSpec.post enc Try.prog Try.f4 false true false false) := by
  refine returnsInHanded_of_change (C := Try.checked) Try.own started (by kernel_rfl) Try.func4
    (ChangeSpec.witness6 (enc := enc) (C := Try.checked) false ⟨#[], #[.int .i64 0, .int .i64 0, .slice none 0 0, .slice none 0 0], []⟩ 8 (by kernel_rfl) (by kernel_rfl) (by kernel_rfl) (by kernel_rfl)) ?_
  intro W base args ds gs before hval0 hW _ _
  have hval : ∀ (j : Nat) t v, Try.f4.params[j]? = some t → args[j]? = some v → Value.okWide Try.prog W .any base t v := hval0
  have hW' := hW
  obtain ⟨p, q, hA0, hV, rfl, hfz, hnd⟩ := hW
  have hA : DataW.TrodAll enc Try.prog W 0 (fun _ => true) true Try.f4.params.toList args.toList ds p := hA0
  rw [Try.params4] at hA hval
  obtain ⟨v0, vs0, d0, ds0, p0, q0, hargs, rfl, rfl, h0, r0⟩ := trodAll_cons hA
  obtain ⟨v1, vs1, d1, ds1, p1, q1, rfl, rfl, rfl, h1, r1⟩ := trodAll_cons r0
  obtain ⟨v2, vs2, d2, ds2, p2, q2, rfl, rfl, rfl, h2, r2⟩ := trodAll_cons r1
  obtain ⟨v3, vs3, d3, ds3, p3, q3, rfl, rfl, rfl, h3, r3⟩ := trodAll_cons r2
  obtain ⟨rfl, rfl, rfl⟩ := trodAll_nil r3
  obtain rfl : args = #[v0, v1, v2, v3] := by cases args; simp_all
  obtain ⟨rfl, rfl⟩ := trodVars_none hV
  obtain ⟨n0, rfl, rfl, rfl, w0⟩ := open_int Try.underlying3 (hval 0 3 v0 rfl rfl) h0
  obtain ⟨n1, rfl, rfl, rfl, w1⟩ := open_int Try.underlying3 (hval 1 3 v1 rfl rfl) h1
  obtain ⟨a2, len2, cap2, rfl⟩ := okWide_slice Try.underlying44 (hval 2 44 v2 rfl rfl)
  obtain ⟨a3, len3, cap3, rfl⟩ := okWide_slice Try.underlying45 (hval 3 45 v3 rfl rfl)
  have k2 := h2
  have k3 := h3
  have lt2 : ∀ x ∈ p2, x.block < W.heap.size := by obtain ⟨m, hm⟩ := k2; exact DataW.trod_lt m _ _ _ hm
  have lt3 : ∀ x ∈ p3, x.block < W.heap.size := by obtain ⟨m, hm⟩ := k3; exact DataW.trod_lt m _ _ _ hm
  have hstrs := isStrs_of h2
  obtain ⟨hlist, hcap⟩ := isList_of h3
  clear hA0 hval0
  refine (senderPlays_any n0 n1 a2 len2 cap2 a3 len3 cap3 W hstrs hlist hcap).mono fun e W' ⟨he, kk⟩ => ?_
  have bel : Below W.heap.size W W' := kk.below (Nat.le_refl _) (by simp)
  subst he
  exact ⟨_, rfl, _, _, _, [], _, [], hW', trodAll_mk1 (shut_bool Try.underlying4 _), (trodAll_cons_mk (shut_int Try.underlying3 w0) (trodAll_cons_mk (shut_int Try.underlying3 w1) (trodAll_cons_mk (Below.trod Try.laidOut (by kernel_rfl) (of_decide_eq_true (by kernel_rfl)) k2 bel lt2) (trodAll_cons_mk (Below.trod Try.laidOut (by kernel_rfl) (of_decide_eq_true (by kernel_rfl)) k3 bel lt3) trodAll_mk0)))), rfl, bel.frame _, fun h => by cases h⟩

theorem senderPlays_holds : Rows.SenderPlaysSaid :=
  OpenClaim.holds_of_wide 4 Try.f4 rfl rfl rfl rfl rfl rfl rfl ⟨rfl, rfl, rfl, rfl, rfl⟩ rfl rfl rfl rfl rfl (by kernel_rfl) Try.func4 (by kernel_rfl)
    (of_decide_eq_true (by kernel_rfl)) (by unfold Func.isWrapper; first | (rw [if_pos (by decide +kernel)]; kernel_rfl) | (rw [if_neg (by decide +kernel)]; exact ⟨rfl, rfl⟩))
    (fun os started H enc _ => sender_lifted os started H enc)
#print axioms senderPlays_holds
end Go.Proofs.Ytffcambjdlkfbaa
