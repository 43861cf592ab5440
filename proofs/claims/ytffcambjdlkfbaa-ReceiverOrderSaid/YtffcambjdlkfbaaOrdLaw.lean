/- The law ReceiverOrder holds: of every list of chunks and every order the Go function returns true, and each argument reads afterwards as it read before. No condition. -/
import Derived.Test.YtffcambjdlkfbaaRecX
import Derived.Test.YtffcambjdlkfbaaOrdB
namespace Go.Proofs.Ytffcambjdlkfbaa
open Go.ChangeShapes Go.WideShapes Go.ChangeAt Go.RowKit Go.Deep

theorem Try.cells5 : Try.prog.cellsOf 5 = 1 := by kernel_rfl

/-- What the walk is told of chunks that came in: there are none, or they lie here. -/
def IsChunks (w : World) (a : Option Addr) (len cap : Nat) : Prop :=
  len = 0 ∨ ∃ g o c, a = some ⟨g, o, none⟩ ∧ len = List.length (α := ByteArray) c ∧ len ≤ cap ∧ cap ≤ 9223372036854775807 ∧ StrsIn w g o c

theorem isChunks_of {H : Type} {enc : TypeId × Value → H} {W : World} {a : Option Addr} {len cap : Nat} {d : DataW H} {p : List MemPlace}
    (h : DataW.Trod enc Try.prog W 0 (fun _ => true) true 44 (.slice a len cap) d p) : IsChunks W a len cap := by
  obtain ⟨fuel, hf⟩ := h
  rcases open_slice Try.underlying44 hf with ⟨hcs, _⟩ | ⟨x, l, c, m, n, D, Pl, hcs, _, hl, hm, hmm, _, hi⟩
  · simp [Value.cells] at hcs
    exact .inl hcs.2.1
  · simp [Value.cells] at hcs
    obtain ⟨rfl, rfl, rfl⟩ := hcs
    by_cases h0 : len = 0
    · exact .inl h0
    have hmc : m = cap := by simpa using hmm
    rw [Try.cells9] at hi
    obtain ⟨g, o, spot⟩ := x
    have hstr : ∀ i, i < len → ∃ s : ByteArray, W.cell? ((⟨g, o, spot⟩ : Addr).add (i * 1)) = some (.string s) := fun i hil => by
      obtain ⟨cs, hc, ht⟩ := hi i (by omega)
      obtain ⟨s, a0, _, _⟩ := DataW.trod_string Try.underlying9 ht
      subst a0
      obtain ⟨_, _, hat⟩ := World.cells?_some hc
      have := hat 0 (by simp)
      exact ⟨s, by simpa [Addr.add] using this⟩
    obtain ⟨s0, hs0⟩ := hstr 0 (by omega)
    simp [Addr.add] at hs0
    have hspot : spot = none := World.cell?_spot hs0
    subst hspot
    obtain ⟨c, hcl, hcs⟩ := choose_list (fun i (s : ByteArray) => W.cell? ⟨g, o + i, none⟩ = some (.string s)) len (fun i hil => by
      obtain ⟨s, hs⟩ := hstr i hil
      rw [addr_add, Nat.mul_one] at hs
      exact ⟨s, hs⟩)
    exact .inr ⟨g, o, c, rfl, hcl.symm, hl, by unfold maxLen at hm; omega, fun i s hs => hcs i s hs⟩

/-- What the walk is told of bytes that came in. -/
def IsByteList (w : World) (a : Option Addr) (len : Nat) : Prop := ∃ xs : List Nat, len = xs.length ∧ IsBytes w a xs

theorem isBytes_of {H : Type} {enc : TypeId × Value → H} {W : World} {a : Option Addr} {len cap : Nat} {d : DataW H} {p : List MemPlace}
    (h : DataW.Trod enc Try.prog W 0 (fun _ => true) true 94 (.slice a len cap) d p) : IsByteList W a len ∧ len ≤ cap ∧ cap ≤ 9223372036854775807 := by
  obtain ⟨fuel, hf⟩ := h
  rcases open_slice Try.underlying94 hf with ⟨hcs, _⟩ | ⟨x, l, c, m, n, D, Pl, hcs, _, hl, hm, hmm, _, hi⟩
  · simp [Value.cells] at hcs
    obtain ⟨_, rfl, rfl⟩ := hcs
    exact ⟨⟨[], rfl, .inl rfl⟩, by omega, by omega⟩
  · simp [Value.cells] at hcs
    obtain ⟨rfl, rfl, rfl⟩ := hcs
    have hmc : m = cap := by simpa using hmm
    refine ⟨?_, hl, by unfold maxLen at hm; omega⟩
    by_cases h0 : len = 0
    · subst h0; exact ⟨[], rfl, .inl rfl⟩
    rw [Try.cells5] at hi
    obtain ⟨g, o, spot⟩ := x
    have hnum : ∀ i, i < len → ∃ x : Nat, x < 256 ∧ W.cell? ((⟨g, o, spot⟩ : Addr).add (i * 1)) = some (.int .u8 x) := fun i hil => by
      obtain ⟨cs, hc, ht⟩ := hi i (by omega)
      obtain ⟨z, a0, _, hw⟩ := DataW.trod_int Try.underlying5 ht
      subst a0
      obtain ⟨_, _, hat⟩ := World.cells?_some hc
      have hz := hat 0 (by simp)
      have hz2 : W.cell? ((⟨g, o, spot⟩ : Addr).add (i * 1)) = some (.int .u8 z) := by simpa [Addr.add] using hz
      have hb : 0 ≤ z ∧ z < 256 := by
        have m1 : IntKind.u8.min = 0 := rfl
        have m2 : IntKind.u8.max = 255 := rfl
        simp [Lit.wf] at hw
        omega
      exact ⟨z.toNat, by omega, by rw [hz2]; congr 2; omega⟩
    obtain ⟨x0, _, hx0⟩ := hnum 0 (by omega)
    simp [Addr.add] at hx0
    have hspot : spot = none := World.cell?_spot hx0
    subst hspot
    obtain ⟨xs, hxl, hxs⟩ := choose_list (fun i (x : Nat) => x < 256 ∧ W.cell? ⟨g, o + i, none⟩ = some (.int .u8 x)) len (fun i hil => by
      obtain ⟨x, hx, hs⟩ := hnum i hil
      rw [addr_add, Nat.mul_one] at hs
      exact ⟨x, hx, hs⟩)
    exact ⟨xs, hxl.symm, .inr ⟨g, o, rfl, fun i x hx => hxs i x hx⟩⟩

theorem order_any (ac : Option Addr) (lenc capc : Nat) (a : Option Addr) (len cap : Nat) (w : World) (hc : IsChunks w ac lenc capc) (hl : IsByteList w a len) (hcap : len ≤ cap ∧ cap ≤ 9223372036854775807) : Calls Try.prog 8 #[.slice ac lenc capc, .slice a len cap] w (AwakePost w) := by
  by_cases h1 : lenc < 1
  · exact order_none ac lenc capc a len cap w h1
  · by_cases h2 : 50 < lenc
    · exact order_many ac lenc capc a len cap w h1 h2
    · by_cases h3 : 300 < len
      · exact order_long ac lenc capc a len cap w h1 h2 h3
      · rcases hc with rfl | ⟨g, o, c, rfl, rfl, h4, h5, h6⟩
        · omega
        · obtain ⟨xs, rfl, hxs⟩ := hl
          exact order_few g o capc c a cap xs w (by omega) (by omega) h4 h5 h6 (by omega) hcap.1 hcap.2 hxs

set_option maxRecDepth 100000 in
theorem order_lifted (os : Os) (started : os.Started) (H : Type) (enc : TypeId × Value → H) :
    ReturnsInHanded {} Try.checked os 8 .any (Rows.receiverOrderSpec.pre6 enc Try.prog Try.f8 Rows.receiverOrderRow.domain false) (Rows.receiverOrderSpec.post enc Try.prog Try.f8 false true false false) := by
  refine returnsInHanded_of_change (C := Try.checked) Try.own started (by kernel_rfl) Try.func8
    (ChangeSpec.witness6 (enc := enc) (C := Try.checked) false ⟨#[], #[.slice none 0 0, .slice none 0 0], []⟩ 8 (by kernel_rfl) (by kernel_rfl) (by kernel_rfl) (by kernel_rfl)) ?_
  intro W base args ds gs before hval0 hW _ _
  have hval : ∀ (j : Nat) t v, Try.f8.params[j]? = some t → args[j]? = some v → Value.okWide Try.prog W .any base t v := hval0
  have hW' := hW
  obtain ⟨p, q, hA0, hV, rfl, hfz, hnd⟩ := hW
  have hA : DataW.TrodAll enc Try.prog W 0 (fun _ => true) true Try.f8.params.toList args.toList ds p := hA0
  rw [Try.params8] at hA hval
  obtain ⟨v0, vs0, d0, ds0, p0, q0, hargs, rfl, rfl, h0, r0⟩ := trodAll_cons hA
  obtain ⟨v1, vs1, d1, ds1, p1, q1, rfl, rfl, rfl, h1, r1⟩ := trodAll_cons r0
  obtain ⟨rfl, rfl, rfl⟩ := trodAll_nil r1
  obtain rfl : args = #[v0, v1] := by cases args; simp_all
  obtain ⟨rfl, rfl⟩ := trodVars_none hV
  obtain ⟨a0, len0, cap0, rfl⟩ := okWide_slice Try.underlying44 (hval 0 44 v0 rfl rfl)
  obtain ⟨a1, len1, cap1, rfl⟩ := okWide_slice Try.underlying94 (hval 1 94 v1 rfl rfl)
  have k0 := h0
  have k1 := h1
  have lt0 : ∀ x ∈ p0, x.block < W.heap.size := by obtain ⟨m, hm⟩ := k0; exact DataW.trod_lt m _ _ _ hm
  have lt1 : ∀ x ∈ p1, x.block < W.heap.size := by obtain ⟨m, hm⟩ := k1; exact DataW.trod_lt m _ _ _ hm
  have hstrs := isChunks_of h0
  obtain ⟨hlist, hcap⟩ := isBytes_of h1
  clear hA0 hval0
  refine (order_any a0 len0 cap0 a1 len1 cap1 W hstrs hlist hcap).mono fun e W' ⟨he, kk⟩ => ?_
  have bel : Below W.heap.size W W' := kk.below (Nat.le_refl _) (by simp)
  subst he
  exact ⟨_, rfl, _, _, _, [], _, [], hW', trodAll_mk1 (shut_bool Try.underlying4 _), (trodAll_cons_mk (Below.trod Try.laidOut (by kernel_rfl) (of_decide_eq_true (by kernel_rfl)) k0 bel lt0) (trodAll_cons_mk (Below.trod Try.laidOut (by kernel_rfl) (of_decide_eq_true (by kernel_rfl)) k1 bel lt1) trodAll_mk0)), rfl, bel.frame _, fun h => by cases h⟩

theorem receiverOrder_holds : Rows.ReceiverOrderSaid :=
  OpenClaim.holds_of_wide 8 Try.f8 rfl rfl rfl rfl rfl rfl rfl ⟨rfl, rfl, rfl, rfl, rfl⟩ rfl rfl rfl rfl rfl (by kernel_rfl) Try.func8 (by kernel_rfl)
    (of_decide_eq_true (by kernel_rfl)) (by unfold Func.isWrapper; first | (rw [if_pos (by decide +kernel)]; kernel_rfl) | (rw [if_neg (by decide +kernel)]; exact ⟨rfl, rfl⟩))
    (fun os started H enc _ => order_lifted os started H enc)
#print axioms receiverOrder_holds
end Go.Proofs.Ytffcambjdlkfbaa
