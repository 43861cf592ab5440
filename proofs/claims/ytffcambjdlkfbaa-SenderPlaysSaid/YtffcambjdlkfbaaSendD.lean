/- Contract of sender.New over any session, epoch and chunks. -/
import Derived.Test.YtffcambjdlkfbaaSendC
import Derived.Deep.DeepCutAuto
namespace Go.Proofs.Ytffcambjdlkfbaa
open Go.RowKit

def snd0 (ses epo : Int) (c : List ByteArray) : Snd := { ses := ses, epo := epo, c := c, l := List.replicate c.length false, tr := List.replicate c.length 0, at_ := List.replicate c.length 0, now := 0, lost := false }

theorem make_ints (u : World) (n : Nat) (hn : n ≤ 1000000) : (Instr.makeSlice 40 (.int .i64 n) (.int .i64 n)).run Try.prog u =
    .ok (sl u.heap.size n n) (u.alloc (.cells ((List.replicate n (0 : Int)).map (Value.int .i64)).toArray 3)) := by
  obtain ⟨i0, hi, hz0, hz1, hz2⟩ := info_parts Try.info3
  have h := run_make (P := Try.prog) u 40 3 i0 (.int .i64 0) Try.underlying40 hi hz0 .i64 .i64 (n : Int) (n : Int) (by omega) (Int.le_refl _) (by rw [hz2]; omega) (by omega)
  have e : madeCells (Value.int IntKind.i64 0).cells n = ((List.replicate n (0 : Int)).map (Value.int .i64)).toArray := by
    rw [← Array.toList_inj, show (Value.int IntKind.i64 0).cells = #[.int .i64 0] from rfl, toList_madeCells_one]
    simp
  rw [Int.toNat_natCast, hz1, Nat.mul_one, e] at h
  exact h

theorem IntsAt.made (u : World) (n : Nat) (hn : n ≤ 1000000) : IntsAt (u.alloc (.cells ((List.replicate n (0 : Int)).map (Value.int .i64)).toArray 3)) u.heap.size n (List.replicate n 0) := by
  have h := World.ownsRow_lit (base := 0) (e := 3) (size := 1) u ((List.replicate n (0 : Int)).map (Value.int .i64)).toArray n (Nat.zero_le _) (by unfold maxLen; omega) (by simp)
  unfold IntsAt
  simpa using h

def NewPost (ses epo : Int) (c : List ByteArray) (w : World) (e : Ending) (w' : World) : Prop :=
  ∃ β : SBlk, e = .returned (.tuple #[ptr β.b, .int .i64 0]) ∧ SndAt w' β (snd0 ses epo c) ∧ β.all.Nodup ∧ (∀ x ∈ β.all, w.heap.size ≤ x) ∧ Keeps [] w w'

theorem owns_block {w : World} {B : Nat} {e : TypeId} {s g n cap : Nat} {xs : List Value} (h : w.ownsRow B e s (.slice (some ⟨g, 0, none⟩) n cap) n xs) : B ≤ g ∧ g < w.heap.size ∧ n ≤ cap ∧ cap ≤ maxLen := by
  obtain ⟨_, h2⟩ := h
  rcases h2 with ⟨h3, _⟩ | ⟨g', cap', cur, h3, hb, hg, hn, hm, _⟩
  · cases h3
  · cases h3; exact ⟨hb, lt_of_block hg, hn, hm⟩

theorem RowAt.new' {w : World} {T : TypeId} {xs : List Value} {g : Nat} (h : g = w.heap.size) : RowAt (w.alloc (.cells xs.toArray T)) g T xs := by subst h; exact RowAt.new w T xs

abbrev zeros (n : Nat) : List Value := List.replicate n (Value.int .i64 0)

theorem IntsAt.of_row {w : World} {g n : Nat} (h : RowAt w g 3 (zeros n)) (hn : n ≤ 1000000) : IntsAt w g n (List.replicate n 0) := by
  unfold IntsAt
  refine ⟨by simp, .inr ⟨g, n, (zeros n).toArray, by simp, Nat.zero_le _, h, by simp, by unfold maxLen; omega, by simp, by simp [List.map_replicate]⟩⟩

/-- A sender has been made: its rows are there, and its box is new. -/
theorem snd_new {w w1 u : World} {ses epo : Int} {g2 c2 gt ga : Nat} {c : List ByteArray} (hl : c.length ≤ 256) (k1 : Keeps [] w w1) (hm1 : w.heap.size < w1.heap.size) (m1 : MapAt w1 w.heap.size (List.replicate c.length false))
    (ku : Keeps [] w1 u) (hs : StrsAt u g2 0 c) (hg2 : w1.heap.size ≤ g2 ∧ g2 < u.heap.size) (hcap : c.length ≤ c2 ∧ c2 ≤ maxLen) (ht : RowAt u gt 3 (zeros c.length)) (ha : RowAt u ga 3 (zeros c.length)) (htm : w1.heap.size ≤ gt) (ham : w1.heap.size ≤ ga)
    (n1 : gt ≠ ga) (n2 : gt ≠ g2) (n3 : ga ≠ g2) {bx : Nat} (hbx : bx = u.heap.size) :
    ∃ β : SBlk, ptr bx = ptr β.b ∧
      SndAt (u.alloc (.cells #[ptr w.heap.size, .int .i64 ses, .int .i64 epo, .slice (some ⟨g2, 0, none⟩) c.length c2, sl gt c.length c.length, sl ga c.length c.length, .int .i64 0, .bool false] 104)) β (snd0 ses epo c) ∧ β.all.Nodup ∧ (∀ x ∈ β.all, w.heap.size ≤ x) ∧
      Keeps [] w (u.alloc (.cells #[ptr w.heap.size, .int .i64 ses, .int .i64 epo, .slice (some ⟨g2, 0, none⟩) c.length c2, sl gt c.length c.length, sl ga c.length c.length, .int .i64 0, .bool false] 104)) := by
  subst hbx
  have kx : Keeps [] u (u.alloc (.cells #[ptr w.heap.size, .int .i64 ses, .int .i64 epo, .slice (some ⟨g2, 0, none⟩) c.length c2, sl gt c.length c.length, sl ga c.length c.length, .int .i64 0, .bool false] 104)) := (Keeps.refl [] u).alloc _
  have hsz := ku.size
  have htl := ht.lt
  have hal := ha.lt
  refine ⟨⟨u.heap.size, w.heap.size, g2, gt, ga, c2, c.length, c.length⟩, rfl, ⟨RowAt.new u 104 _, (m1.keeps ku (by simp)).keeps kx (by simp), hs.keeps kx (by simp), (IntsAt.of_row ht (by omega)).keeps kx (by simp), (IntsAt.of_row ha (by omega)).keeps kx (by simp), hcap.1, by have := hcap.2; unfold maxLen at this; exact this⟩, ?_, ?_, k1.trans (ku.trans kx)⟩
  · unfold SBlk.all
    simp only [List.nodup_cons, List.mem_cons, List.not_mem_nil, not_or, or_false, List.nodup_nil, and_true, not_false_eq_true]
    omega
  · intro x hx
    unfold SBlk.all at hx
    simp only [List.mem_cons, List.not_mem_nil, or_false] at hx
    omega

set_option maxRecDepth 100000 in
set_option maxHeartbeats 4000000 in
theorem sNew_yes (ses epo : Int) (g o cap : Nat) (c : List ByteArray) (w : World) (h1 : 1 ≤ c.length) (h2 : c.length ≤ 256) (hcap : c.length ≤ cap) (hcm : cap ≤ 9223372036854775807) (hc : StrsAt w g o c)
    (hsz : ∀ s ∈ c, s.size ≤ 1000) (hs0 : 0 ≤ ses) (hs1 : ses < 4294967296) (he0 : 0 ≤ epo) (he1 : epo < 4294967296) :
    Calls Try.prog 28 #[.int .i64 ses, .int .i64 epo, .slice (some ⟨g, o, none⟩) c.length cap] w (NewPost ses epo c w) := by
  have hlong : longAny c = false := by
    cases h : longAny c with
    | false => rfl
    | true =>
      obtain ⟨s, hs, hd⟩ := List.any_eq_true.1 h
      have := hsz s hs
      simp at hd; omega
  have HL := Lib.hid hlong; clear hlong
  have HC := Lib.hid hc; clear hc
  have HS := Lib.hid hsz; clear hsz
  go_enter Try.func28, Try.ntmps28
  go_wp2_with fail
  refine (containsStr_some g o cap c w hcap hcm HC.out (fun s hs => by have := HS.out s hs; omega)).mono ?_
  rw [HL.out]
  rintro e w' ⟨rfl, rfl⟩
  go_wp2_with fail
  refine (new_lit c.length c.length _ rfl h1 h2).mono ?_
  rintro e w1 ⟨rfl, m1, k1, s1⟩
  have hbm : w.heap.size < w1.heap.size := s1
  have m1 := Lib.hid m1
  have k1 := Lib.hid k1
  rename_i k1' m1'
  clear k1' m1' s1
  have hmk := fun u : World => make_ints u c.length (by omega)
  go_wp2_with fail
  go_cut [6, 7] (fun v u wx => u = .int .i64 0 ∧ ∃ β : SBlk, v = ptr β.b ∧ SndAt wx β (snd0 ses epo c) ∧ β.all.Nodup ∧ (∀ x ∈ β.all, w.heap.size ≤ x) ∧ Keeps [] w wx)
  case first =>
    go_region_held3 (fun w' => Keeps [] w1 w') (first | assumption | exact (Keeps.refl [] w1).drew | exact Keeps.alloc (by assumption) _)
      (first | (go_at_call 62; refine (clone_any g o cap c _ h1 (by omega) (HC.out.keeps (k1.out.trans (by assumption)) (by simp))).mono ?_; rintro e w' ⟨g2, c2, rfl, ho2, hk2⟩; have hh : Keeps [] w1 w' := Keeps.trans (by assumption) hk2))
    all_goals (go_wp2_with fail; go_meet)
    all_goals (
      obtain ⟨hB, hL, hC1, hC2⟩ := owns_block ho2
      have hst := StrsAt.of_owns ho2
      have hz1 := hk2.size
      have hz2 := hh.size
      simp only [World.drew, World.size_alloc] at hB hz1
      refine ⟨rfl, ?_⟩
      refine snd_new (w1 := w1) (by omega) k1.out hbm m1.out ?_ ?_ ?_ ⟨hC1, hC2⟩ ?_ ?_ ?_ ?_ ?_ ?_ ?_ (by simp)
      · (repeat (refine Keeps.alloc ?_ _)); exact hh
      · refine hst.keeps (S := []) ?_ (by simp); (repeat (refine Keeps.alloc ?_ _)); exact Keeps.refl _ _
      · (try simp); omega
      · (repeat (first | (refine RowAt.new' ?_ ; simp; done) | refine RowAt.alloc ?_ _ | refine RowAt.keeps ?_ hk2 (by simp) | refine RowAt.drew ?_))
      · (repeat (first | (refine RowAt.new' ?_ ; simp; done) | refine RowAt.alloc ?_ _ | refine RowAt.keeps ?_ hk2 (by simp) | refine RowAt.drew ?_))
      all_goals (first | omega | (simp at *; omega)))
  case rest =>
    obtain ⟨rfl, β, rfl, h3, h4, h5, h6⟩ := hcut
    have h3 := Lib.hid h3
    have h5 := Lib.hid h5
    have h6 := Lib.hid h6
    rename_i h3' h5' h6'
    clear h3' h5' h6'
    go_wp2_with fail
    go_ret2
    exact ⟨β, rfl, h3.out, h4, h5.out, h6.out⟩
end Go.Proofs.Ytffcambjdlkfbaa
