/- The law SackPlays holds: of every number and every list of calls the Go function returns true, and each argument reads afterwards as it read before. No condition. -/
import Derived.Test.YtffcambjdlkfbaaRows
import Derived.Test.YtffcambjdlkfbaaSackP
import Derived.ProofKit
import Derived.OpenShut
import Derived.ChangeOld
import Derived.Below
import Derived.Deep.Slices
namespace Go.Proofs.Ytffcambjdlkfbaa
open Go.ChangeShapes Go.WideShapes Go.ChangeAt Go.RowKit Go.Deep

set_option maxRecDepth 100000 in
theorem sack_great (n : Int) (a : Option Addr) (len cap : Nat) (w : World) (h : 200 < len ∨ 256 < n) : Calls Try.prog 3 #[.int .i64 n, .slice a len cap] w (AwakePost w) := by
  rcases h with h | h
  · go_enter Try.func3, Try.ntmps3
    go_wp2_with fail
    refine (awake12 _).mono ?_
    rintro e w1 ⟨rfl, k1⟩
    have k1 := Lib.hid k1
    go_wp2_with fail
    refine (awake12 _).mono ?_
    rintro e w2 ⟨rfl, k2⟩
    have k2 := Lib.hid k2
    go_wp2_with fail
    go_ret
    exact ⟨rfl, k1.out.trans k2.out⟩
  · by_cases hl : 200 < len
    · go_enter Try.func3, Try.ntmps3
      go_wp2_with fail
      refine (awake12 _).mono ?_
      rintro e w1 ⟨rfl, k1⟩
      have k1 := Lib.hid k1
      go_wp2_with fail
      refine (awake12 _).mono ?_
      rintro e w2 ⟨rfl, k2⟩
      have k2 := Lib.hid k2
      go_wp2_with fail
      go_ret
      exact ⟨rfl, k1.out.trans k2.out⟩
    · go_enter Try.func3, Try.ntmps3
      go_wp2_with fail
      refine (awake12 _).mono ?_
      rintro e w1 ⟨rfl, k1⟩
      have k1 := Lib.hid k1
      go_wp2_with fail
      refine (awake12 _).mono ?_
      rintro e w2 ⟨rfl, k2⟩
      have k2 := Lib.hid k2
      go_wp2_with fail
      go_ret
      exact ⟨rfl, k1.out.trans k2.out⟩

set_option maxRecDepth 100000 in
theorem sack_small (n : Int) (a : Option Addr) (len cap : Nat) (w : World) (hl : len ≤ 200) (h : n < 1) : Calls Try.prog 3 #[.int .i64 n, .slice a len cap] w (AwakePost w) := by
  go_enter Try.func3, Try.ntmps3
  go_wp2_with fail
  refine (awake12 _).mono ?_
  rintro e w1 ⟨rfl, k1⟩
  have k1 := Lib.hid k1
  go_wp2_with fail
  refine (new_no n _ (Or.inl h)).mono ?_
  rintro e w2 ⟨rfl, rfl⟩
  go_wp2_with fail
  go_ret
  exact ⟨rfl, k1.out⟩

set_option maxRecDepth 100000 in
theorem sack_none (n : Nat) (h1 : 1 ≤ n) (h2 : n ≤ 256) (a : Option Addr) (cap : Nat) (w : World) : Calls Try.prog 3 #[.int .i64 n, .slice a 0 cap] w (AwakePost w) := by
  go_enter Try.func3, Try.ntmps3
  go_wp2_with fail
  refine (awake12 _).mono ?_
  rintro e w1 ⟨rfl, k1⟩
  have k1 := Lib.hid k1
  go_wp2_with fail
  refine (new_lit n n _ rfl h1 h2).mono ?_
  rintro e w2 ⟨rfl, m2, k2, s2⟩
  have k2 := Lib.hid k2
  have hmk := fun u : World => make_bools u n (by omega)
  go_wp2_with fail
  refine wp_loop_rounds 1 ?_
  rw [rounds_succ]
  go_wp2_with fail
  go_ret
  have e : (List.replicate n false).map Value.bool = List.replicate n (Value.bool false) := by simp
  exact ⟨rfl, (k1.out.trans k2.out).alloc _⟩

theorem Try.own : ownKnob Try.prog.godebug = none := by kernel_rfl
theorem Try.laidOut : laidOutB Try.prog = true := by kernel_rfl
theorem Try.cells30 : Try.prog.cellsOf 30 = 4 := by kernel_rfl
theorem Try.cells3 : Try.prog.cellsOf 3 = 1 := by kernel_rfl
theorem Try.cells9 : Try.prog.cellsOf 9 = 1 := by kernel_rfl

/-- What the walk is told of a list of calls that came in: it is empty, or its cells are these. -/
def IsOps (w : World) (a : Option Addr) (len cap : Nat) : Prop :=
  len = 0 ∨ ∃ g o ops, a = some ⟨g, o, none⟩ ∧ len = ops.length ∧ len ≤ cap ∧ cap ≤ 9223372036854775807 ∧ OpsAt w g o ops

theorem sack_walk_any (n : Int) (a : Option Addr) (len cap : Nat) (w : World) (h : IsOps w a len cap) : Calls Try.prog 3 #[.int .i64 n, .slice a len cap] w (AwakePost w) := by
  by_cases h1 : 200 < len ∨ 256 < n
  · exact sack_great n a len cap w h1
  · by_cases h2 : n < 1
    · exact sack_small n a len cap w (by omega) h2
    · obtain ⟨m, rfl⟩ := Int.eq_ofNat_of_zero_le (show 0 ≤ n by omega)
      rcases h with rfl | ⟨g, o, ops, rfl, rfl, h3, h4, h5⟩
      · exact sack_none m (by omega) (by omega) a cap w
      · exact sackPlays_walk m (by omega) (by omega) g o cap ops (by omega) h3 h4 w h5

theorem list4 {α : Type} (l : List α) (h : l.length = 4) : ∃ a b c d, l = [a, b, c, d] := by
  match l, h with
  | [a, b, c, d], _ => exact ⟨a, b, c, d, rfl⟩

theorem choose_list {α : Type} (p : Nat → α → Prop) : ∀ n, (∀ i, i < n → ∃ x, p i x) → ∃ l : List α, l.length = n ∧ ∀ i x, l[i]? = some x → p i x := by
  intro n
  induction n with
  | zero => intro _; exact ⟨[], rfl, fun i x h => by simp at h⟩
  | succ n ih =>
    intro h
    obtain ⟨l, hl, hp⟩ := ih fun i hi => h i (by omega)
    obtain ⟨y, hy⟩ := h n (by omega)
    refine ⟨l ++ [y], by simp [hl], fun i x hx => ?_⟩
    rcases Nat.lt_or_ge i l.length with hi | hi
    · rw [List.getElem?_append_left hi] at hx; exact hp i x hx
    · rw [List.getElem?_append_right hi] at hx
      have : i - l.length = 0 := by
        rcases Nat.eq_zero_or_pos (i - l.length) with h0 | h0
        · exact h0
        · rw [List.getElem?_eq_none (by simp; omega)] at hx; cases hx
      rw [this] at hx
      simp at hx
      subst hx
      rw [show i = n from by omega]; exact hy

theorem addr_add (g o k : Nat) : (⟨g, o, none⟩ : Addr).add k = ⟨g, o + k, none⟩ := by unfold Addr.add; split <;> simp_all

/-- One call's four cells. -/
theorem open_op {H : Type} {enc : TypeId × Value → H} {W : World} {n : Nat} {cs : List Value} {d : DataW H × List MemPlace} {b : Nat} {sp : Nat → Bool} {held : Bool}
    (h : DataW.trod enc Try.prog W b sp held n 30 cs = some d) : ∃ (k N M : Int) (s : ByteArray), cs = [.int .i64 k, .int .i64 N, .int .i64 M, .string s] := by
  obtain ⟨xs, m, _, _, hlen, hxl, hf⟩ := DataW.trod_struct Try.underlying30 h
  rw [Try.cells30] at hlen
  obtain ⟨c0, c1, c2, c3, rfl⟩ := list4 cs hlen
  have f0 := hf 0 _ rfl
  have f1 := hf 1 _ rfl
  have f2 := hf 2 _ rfl
  have f3 := hf 3 _ rfl
  have hx : ∀ i, i < 4 → ∃ y, xs[i]? = some y := fun i hi => ⟨_, List.getElem?_eq_getElem (by rw [hxl]; exact hi)⟩
  obtain ⟨y0, e0⟩ := hx 0 (by omega)
  obtain ⟨y1, e1⟩ := hx 1 (by omega)
  obtain ⟨y2, e2⟩ := hx 2 (by omega)
  obtain ⟨y3, e3⟩ := hx 3 (by omega)
  rw [e0] at f0
  rw [e1] at f1
  rw [e2] at f2
  rw [e3] at f3
  simp [Try.cells3, Try.cells9] at f0 f1 f2 f3
  obtain ⟨k, a0, _, _⟩ := DataW.trod_int Try.underlying3 f0
  obtain ⟨N, a1, _, _⟩ := DataW.trod_int Try.underlying3 f1
  obtain ⟨M, a2, _, _⟩ := DataW.trod_int Try.underlying3 f2
  obtain ⟨s, a3, _, _⟩ := DataW.trod_string Try.underlying9 f3
  simp only [List.cons.injEq, and_true] at a0 a1 a2 a3
  exact ⟨k, N, M, s, by rw [a0, a1, a2, a3]⟩

theorem isOps_of {H : Type} {enc : TypeId × Value → H} {W : World} {a : Option Addr} {len cap : Nat} {d : DataW H} {p : List MemPlace}
    (h : DataW.Trod enc Try.prog W 0 (fun _ => true) true 22 (.slice a len cap) d p) : IsOps W a len cap := by
  obtain ⟨fuel, hf⟩ := h
  rcases open_slice Try.underlying22 hf with ⟨hcs, _⟩ | ⟨x, l, c, m, n, D, Pl, hcs, _, hl, hm, hmm, _, hi⟩
  · simp [Value.cells] at hcs
    exact .inl hcs.2.1
  · simp [Value.cells] at hcs
    obtain ⟨rfl, rfl, rfl⟩ := hcs
    by_cases h0 : len = 0
    · exact .inl h0
    have hmc : m = cap := by simpa using hmm
    rw [Try.cells30] at hi
    obtain ⟨g, o, spot⟩ := x
    obtain ⟨cs0, hc0, ht0⟩ := hi 0 (by omega)
    obtain ⟨k0, N0, M0, s0, rfl⟩ := open_op ht0
    obtain ⟨_, _, hat0⟩ := World.cells?_some hc0
    have h00 := hat0 0 (by omega)
    simp [Addr.add] at h00
    have hspot : spot = none := World.cell?_spot h00
    subst hspot
    obtain ⟨ops, hol, hops⟩ := choose_list (fun i (x : Op12) => W.cell? ⟨g, o + i * 4, none⟩ = some (.int .i64 x.kind) ∧ W.cell? ⟨g, o + i * 4 + 1, none⟩ = some (.int .i64 x.n) ∧ W.cell? ⟨g, o + i * 4 + 1 + 1, none⟩ = some (.int .i64 x.m) ∧
        W.cell? ⟨g, o + i * 4 + 1 + 1 + 1, none⟩ = some (.string x.s)) len (fun i hil => by
      obtain ⟨cs, hc, ht⟩ := hi i (by omega)
      obtain ⟨k, N, M, s, rfl⟩ := open_op ht
      obtain ⟨_, _, hat⟩ := World.cells?_some hc
      rw [addr_add] at hat
      have g0 := hat 0 (by omega)
      have g1 := hat 1 (by omega)
      have g2 := hat 2 (by omega)
      have g3 := hat 3 (by omega)
      rw [addr_add] at g0 g1 g2 g3
      exact ⟨⟨k, N, M, s⟩, g0, g1, g2, g3⟩)
    exact .inr ⟨g, o, ops, rfl, hol.symm, hl, by unfold maxLen at hm; omega, fun i x hx => (hops i x hx).1, fun i x hx => (hops i x hx).2.1, fun i x hx => (hops i x hx).2.2.1, fun i x hx => (hops i x hx).2.2.2⟩

set_option maxRecDepth 100000 in
theorem sack_lifted (os : Os) (started : os.Started) (H : Type) (enc : TypeId × Value → H) :
    ReturnsInHanded {} Try.checked os 3 .any (Rows.sackPlaysSpec.pre6 enc Try.prog Try.f3 Rows.sackPlaysRow.domain false) (Rows.sackPlaysSpec.post enc Try.prog Try.f3 false true false false) := by
  refine returnsInHanded_of_change (C := Try.checked) Try.own started (by kernel_rfl) Try.func3
    (ChangeSpec.witness6 (enc := enc) (C := Try.checked) false ⟨#[], #[.int .i64 0, .slice none 0 0], []⟩ 8 (by kernel_rfl) (by kernel_rfl) (by kernel_rfl) (by kernel_rfl)) ?_
  intro W base args ds gs before hval0 hW _ _
  have hval : ∀ (j : Nat) t v, Try.f3.params[j]? = some t → args[j]? = some v → Value.okWide Try.prog W .any base t v := hval0
  have hW' := hW
  obtain ⟨p, q, hA0, hV, rfl, hfz, hnd⟩ := hW
  have hA : DataW.TrodAll enc Try.prog W 0 (fun _ => true) true Try.f3.params.toList args.toList ds p := hA0
  rw [Try.params3] at hA hval
  obtain ⟨v0, vs0, d0, ds0, p0, q0, hargs, rfl, rfl, h0, r0⟩ := trodAll_cons hA
  obtain ⟨v1, vs1, d1, ds1, p1, q1, rfl, rfl, rfl, h1, r1⟩ := trodAll_cons r0
  obtain ⟨rfl, rfl, rfl⟩ := trodAll_nil r1
  obtain rfl : args = #[v0, v1] := by cases args; simp_all
  obtain ⟨rfl, rfl⟩ := trodVars_none hV
  obtain ⟨n, rfl, rfl, rfl, w0⟩ := open_int Try.underlying3 (hval 0 3 v0 rfl rfl) h0
  obtain ⟨a1, len1, cap1, rfl⟩ := okWide_slice Try.underlying22 (hval 1 22 v1 rfl rfl)
  have k1 := h1
  have lt1 : ∀ x ∈ p1, x.block < W.heap.size := by obtain ⟨m, hm⟩ := k1; exact DataW.trod_lt m _ _ _ hm
  have hops := isOps_of h1
  clear hA0 hval0
  refine (sack_walk_any n a1 len1 cap1 W hops).mono fun e W' ⟨he, kk⟩ => ?_
  have bel : Below W.heap.size W W' := kk.below (Nat.le_refl _) (by simp)
  subst he
  exact ⟨_, rfl, _, _, _, [], _, [], hW', trodAll_mk1 (shut_bool Try.underlying4 _), (trodAll_cons_mk (shut_int Try.underlying3 w0) (trodAll_cons_mk (Below.trod Try.laidOut (by kernel_rfl) (of_decide_eq_true (by kernel_rfl)) k1 bel lt1) trodAll_mk0)), rfl, bel.frame _, fun h => by cases h⟩

theorem sackPlays_holds : Rows.SackPlaysSaid :=
  OpenClaim.holds_of_wide 3 Try.f3 rfl rfl rfl rfl rfl rfl rfl ⟨rfl, rfl, rfl, rfl, rfl⟩ rfl rfl rfl rfl rfl (by kernel_rfl) Try.func3 (by kernel_rfl)
    (of_decide_eq_true (by kernel_rfl)) (by unfold Func.isWrapper; first | (rw [if_pos (by decide +kernel)]; kernel_rfl) | (rw [if_neg (by decide +kernel)]; exact ⟨rfl, rfl⟩))
    (fun os started H enc _ => sack_lifted os started H enc)
#print axioms sackPlays_holds
end Go.Proofs.Ytffcambjdlkfbaa
