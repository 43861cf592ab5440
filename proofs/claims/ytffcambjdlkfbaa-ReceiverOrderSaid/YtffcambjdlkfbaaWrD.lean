/- Contracts of strings.Builder.WriteString at a varint.Writer. -/
import Derived.Test.YtffcambjdlkfbaaWrC
import Derived.Lib.AppendStr
namespace Go.Proofs.Ytffcambjdlkfbaa
open Go.RowKit

theorem strCells_u8s (s : ByteArray) : Lib.strCells s = u8s s.data.toList := rfl

/-- A row of bytes lies in no block of a writer. -/
theorem row_apart {w : World} {B b n : Nat} {T : TypeId} {v : Value} {xs ys : List Value} (h : w.ownsRow B 5 1 v n xs) (hr : RowAt w b T ys) (hT : T ≠ 5) : v.ownBlock ≠ some b := fun e => by
  rcases h.2 with ⟨rfl, _⟩ | ⟨g, cap, cur, rfl, hb, hg, _⟩
  · cases e
  · have e2 : g = b := by simpa [Value.ownBlock] using e
    subst e2
    have hr' : w.heap[g]? = some (.cells ys.toArray T (0, 0)) := hr
    rw [hr'] at hg
    injection hg with h1
    injection h1 with _ h2
    exact hT h2

theorem wr_grown0 {w1 w2 : World} {B b n : Nat} {v p : Value} {xs : List Value} (hr : RowAt w1 b 122 [p, v]) (hown : w1.ownsRow B 5 1 v n xs) (hne : v.ownBlock ≠ some b) (hg : w1.grownBy w2 v.ownBlock) :
    RowAt w2 b 122 [p, v] ∧ (∀ k ∈ v.ownBlock.toList, B ≤ k) ∧ Keeps v.ownBlock.toList w1 w2 := by
  have kk : Keeps v.ownBlock.toList w1 w2 := (Keeps.refl _ w1).grown hg (fun j hj => Or.inl (by rw [hj]; simp))
  exact ⟨hr.keeps kk (fun hm => hne (by simpa using hm)), fun k hk => (hown.lt k (by simpa using hk)).1, kk⟩

theorem owns_slice {w : World} {B n : Nat} {v : Value} {xs : List Value} (h : w.ownsRow B 5 1 v n xs) : ∃ a c, v = .slice a n c := by
  rcases h.2 with ⟨rfl, h0⟩ | ⟨g, cap, cur, rfl, _⟩
  · exact ⟨none, 0, by rw [h0]⟩
  · exact ⟨_, _, rfl⟩

set_option maxRecDepth 100000 in
theorem writeString101 (B b : Nat) (bs : List UInt8) (s : ByteArray) (w : World) (h : WrAt w B b bs) (hB : B ≤ w.heap.size) (hl : bs.length ≤ 100000000) (hs : s.size ≤ 100000000) :
    Calls Try.prog 101 #[ptr b, .string s] w fun e w' => e = .returned (.tuple #[.int .i64 s.size, .nilIface]) ∧ WrAt w' B b (bs ++ s.data.toList) ∧ Over B w w' := by
  obtain ⟨i0, hi, hz0, hz1, hz2⟩ := info_parts Try.info5
  have hge := h.ge
  have HK := Lib.hid (copyCheck_any B b bs w h)
  clear h
  go_enter Try.func101, Try.ntmps101
  go_wp2_with fail
  refine (HK.out).mono ?_
  rintro e w1 ⟨rfl, ⟨v, hr, hown, hne⟩, ho⟩
  have c1 : w1.cell? ⟨b, 1, none⟩ = some v := by rw [hr.cell]; rfl
  have hsz1 : B ≤ w1.heap.size := by obtain ⟨S, _, k⟩ := ho; exact Nat.le_trans hB k.size
  have HR := Lib.hid hr
  have HOwn := Lib.hid hown
  have HOv := Lib.hid ho
  have HNe := Lib.hid hne
  clear hr hown ho hne
  have H3 := Lib.hid (show bs.length + s.size ≤ maxLen from by unfold maxLen; omega)
  have H4 := Lib.hid (show bs.length + s.size ≤ 140737488355328 from by omega)
  go_wp2_with (first | (at_builtin; refine Lib.wpList_append_own_string _ rfl _ _ 94 9 rfl B 5 i0 Try.underlying94 Try.underlying9 hi hz0 hz1 hz2 v bs.length (u8s bs) rfl HOwn.out s rfl H3.out H4.out hsz1 ?_; intro v' w2 hown' hgrow _; have hown' := Lib.hid hown'; have hgrow := Lib.hid hgrow; have hr2 := wr_grown0 HR.out HOwn.out HNe.out hgrow.out; have f1 := hr2.1.free 1; have c1b : w2.cell? ⟨b, 1, none⟩ = some v := (hr2.1.cell 1); have hr2 := Lib.hid hr2; obtain ⟨a2, cap2, hv⟩ := owns_slice hown'.out; rw [hv]))
  go_ret2
  obtain ⟨q1, q2, q3⟩ := hr2.out
  have hap := row_apart hown'.out q1 (by decide)
  have hown2 := hown'.out
  rw [hv] at hown2 hap
  have hk3 := keeps_store1 w2 b 1 (.slice a2 (bs.length + s.size) cap2)
  refine ⟨rfl, ⟨hge, ptr b, .slice a2 (bs.length + s.size) cap2, q1.set 1 _, .inr rfl, ?_, hap⟩, HOv.out.trans ⟨v.ownBlock.toList ++ [b], fun k hk => ?_, (q3.mono (fun x hx => List.mem_append_left _ hx)).trans (hk3.mono (fun x hx => List.mem_append_right _ hx))⟩⟩
  · have := hk3.owns hown2 (fun g hg hm => by simp at hm; subst hm; exact hap hg)
    rw [strCells_u8s] at this
    have e : (bs ++ s.data.toList).length = bs.length + s.size := by rw [List.length_append]; rfl
    rw [e, show u8s (bs ++ s.data.toList) = u8s bs ++ u8s s.data.toList from by simp [u8s]]
    exact this
  · rcases List.mem_append.1 hk with h | h
    · exact q2 k h
    · simp at h; omega
end Go.Proofs.Ytffcambjdlkfbaa
