/- Contracts of a strings.Builder that lies in a varint.Writer: WriteByte, WriteString. -/
import Derived.Test.YtffcambjdlkfbaaWrA
import Derived.Deep.AppendLies
namespace Go.Proofs.Ytffcambjdlkfbaa
open Go.RowKit

/-- Only blocks from B on are turned. -/
def Over (B : Nat) (w w' : World) : Prop := ∃ S : List Nat, (∀ k ∈ S, B ≤ k) ∧ Keeps S w w'
theorem Over.refl (B : Nat) (w : World) : Over B w w := ⟨[], by simp, Keeps.refl _ _⟩
theorem Over.trans {B : Nat} {a b c : World} (h : Over B a b) (k : Over B b c) : Over B a c := by
  obtain ⟨S, hS, h⟩ := h
  obtain ⟨T, hT, k⟩ := k
  exact ⟨S ++ T, fun x hx => by rcases List.mem_append.1 hx with h | h; exact hS x h; exact hT x h, (h.mono (fun x hx => List.mem_append_left _ hx)).trans (k.mono (fun x hx => List.mem_append_right _ hx))⟩
theorem Over.keeps {B : Nat} {w0 w w' : World} (h : Over B w w') (k : Keeps [] w0 w) (hB : w0.heap.size ≤ B) : Keeps [] w0 w' := by
  obtain ⟨S, hS, h⟩ := h
  exact k.then h (fun x hx => Or.inr (Nat.le_trans hB (hS x hx)))

theorem WrAt.lt {w : World} {B b : Nat} {bs : List UInt8} (h : WrAt w B b bs) : b < w.heap.size := by
  obtain ⟨_, p, v, hr, _⟩ := h
  exact hr.lt

/-- copyCheck: behind it the builder holds its own address. -/
theorem copyCheck_any (B b : Nat) (bs : List UInt8) (w : World) (h : WrAt w B b bs) : Calls Try.prog 104 #[ptr b] w fun e w' => e = .returned (.tuple #[]) ∧ (∃ v, RowAt w' b 122 [ptr b, v] ∧ w'.ownsRow B 5 1 v bs.length (u8s bs) ∧ v.ownBlock ≠ some b) ∧ Over B w w' := by
  obtain ⟨hB, p, v, hr, hp, hown, hne⟩ := h
  rcases hp with rfl | rfl
  · refine (copyCheck_fresh b v w hr).mono ?_
    rintro e w' ⟨rfl, rfl⟩
    have k := keeps_store1 w b 0 (ptr b)
    exact ⟨rfl, ⟨v, hr.set 0 _, k.owns hown (fun g hg hm => by simp at hm; subst hm; exact hne hg), hne⟩, [b], by simpa using hB, k⟩
  · refine (copyCheck_used b w (by rw [hr.cell]; rfl)).mono ?_
    rintro e w' ⟨rfl, rfl⟩
    exact ⟨rfl, ⟨v, hr, hown, hne⟩, Over.refl _ _⟩

theorem wr_grown {w1 w2 : World} {B b n : Nat} {v p : Value} {xs : List Value} {o : Obj} (hr : RowAt w1 b 122 [p, v]) (hown : w1.ownsRow B 5 1 v n xs) (hne : v.ownBlock ≠ some b) (hg : (w1.alloc o).grownBy w2 v.ownBlock) :
    RowAt w2 b 122 [p, v] ∧ (∀ k ∈ v.ownBlock.toList, B ≤ k) ∧ Keeps v.ownBlock.toList w1 w2 := by
  have kk : Keeps v.ownBlock.toList w1 w2 := ((Keeps.refl _ w1).alloc _).grown hg (fun j hj => Or.inl (by rw [hj]; simp))
  exact ⟨hr.keeps kk (fun hm => hne (by simpa using hm)), fun k hk => (hown.lt k (by simpa using hk)).1, kk⟩

set_option maxRecDepth 100000 in
theorem writeByte102 (B b : Nat) (bs : List UInt8) (c : UInt8) (w : World) (h : WrAt w B b bs) (hB : B ≤ w.heap.size) (hl : bs.length ≤ 100000000) :
    Calls Try.prog 102 #[ptr b, .int .u8 c.toNat] w fun e w' => e = .returned .nilIface ∧ WrAt w' B b (bs ++ [c]) ∧ Over B w w' := by
  obtain ⟨i0, hi, hz0, hz1, hz2⟩ := info_parts Try.info5
  have hge := h.ge
  have HK := Lib.hid (copyCheck_any B b bs w h)
  clear h
  go_enter Try.func102, Try.ntmps102
  go_wp2_with fail
  refine (HK.out).mono ?_
  rintro e w1 ⟨rfl, ⟨v, hr, hown, hne⟩, ho⟩
  have c1 : w1.cell? ⟨b, 1, none⟩ = some v := by rw [hr.cell]; rfl
  have hsz1 : B ≤ w1.heap.size := by obtain ⟨S, _, k⟩ := ho; exact Nat.le_trans hB k.size
  have hbl := hr.lt
  have HR := Lib.hid hr
  have HOwn := Lib.hid hown
  have HOv := Lib.hid ho
  have HNe := Lib.hid hne
  clear hr hown ho hne
  have HC := Lib.hid (show ∀ (j : Nat) (u : Value), [Value.int .u8 c.toNat][j]? = some u → (w1.alloc (.cells #[.int .u8 c.toNat] 5)).cell? ((⟨w1.heap.size, 0, none⟩ : Addr).add j) = some u from fun j u hj => by
    match j, hj with
    | 0, hj => simp at hj; subst hj; simp [Addr.add])
  have HOne := Lib.hid (show ∀ u ∈ [Value.int .u8 (c.toNat : Int)], u.oneCell' = true from fun u hu => by simp at hu; subst hu; rfl)
  have H3 := Lib.hid (show bs.length + 1 ≤ maxLen from by unfold maxLen; omega)
  have H4 := Lib.hid (show (bs.length + 1) * 1 ≤ 140737488355328 from by omega)
  have H5 := Lib.hid (show B ≤ (w1.alloc (.cells #[.int .u8 c.toNat] 5)).heap.size from by simp; omega)
  go_wp2_with (first | (at_builtin; refine wpList_append_lies _ rfl _ _ _ rfl B 5 i0 (.int .u8 0) 1 1 Try.underlying94 hi hz0 hz1 hz2 rfl (by decide) v bs.length (u8s bs) rfl (HOwn.out.alloc _) ⟨w1.heap.size, 0, none⟩ 1 1 [.int .u8 c.toNat] rfl rfl HC.out HOne.out (by decide) H3.out H4.out H5.out (w1.heap.size + 1) (by simp) ?_; intro g2 cap2 w2 hown' hgrow hat hlt2; have hown' := Lib.hid hown'; have hgrow := Lib.hid hgrow; have hr2 := wr_grown HR.out HOwn.out HNe.out hgrow.out; have f1 := hr2.1.free 1; have c1b : w2.cell? ⟨b, 1, none⟩ = some v := (hr2.1.cell 1); have hr2 := Lib.hid hr2))
  go_ret
  obtain ⟨q1, q2, q3⟩ := hr2.out
  have hk3 := keeps_store1 w2 b 1 (.slice (some ⟨g2, 0, none⟩) (bs.length + 1) cap2)
  have hgb : g2 ≠ b := by
    rcases hat with h | h
    · exact fun e => HNe.out (by rw [h, e])
    · omega
  refine ⟨rfl, ⟨hge, ptr b, .slice (some ⟨g2, 0, none⟩) (bs.length + 1) cap2, q1.set 1 _, .inr rfl, ?_, fun e => hgb (by cases e; rfl)⟩, HOv.out.trans ⟨v.ownBlock.toList ++ [b], fun k hk => ?_, (q3.mono (fun x hx => List.mem_append_left _ hx)).trans (hk3.mono (fun x hx => List.mem_append_right _ hx))⟩⟩
  · have := hk3.owns hown'.out (fun g hg hm => by cases hg; simp at hm; exact hgb hm)
    simpa [u8s] using this
  · rcases List.mem_append.1 hk with h | h
    · exact q2 k h
    · simp at h; omega
end Go.Proofs.Ytffcambjdlkfbaa
