/- The reference of layer 13 (signpostref13): New, Ack, SameFrames. -/
import Derived.Test.YtffcambjdlkfbaaSendJ
namespace Go.Proofs.Ytffcambjdlkfbaa
open Go.RowKit

def RBlk.own (ρ : RBlk) : List Nat := [ρ.b, ρ.gi, ρ.gt, ρ.ga]

def RNewPost (ses epo : Int) (g : Nat) (c : List ByteArray) (w : World) (e : Ending) (w' : World) : Prop :=
  ∃ ρ : RBlk, e = .returned (ptr ρ.b) ∧ RSndAt w' ρ (snd0 ses epo c) ∧ ρ.gx = g ∧ ρ.own.Nodup ∧ (∀ x ∈ ρ.own, w.heap.size ≤ x) ∧ Keeps [] w w'

abbrev falses (n : Nat) : List Value := List.replicate n (Value.bool false)

theorem BoolsAt.of_row {w : World} {g n : Nat} (h : RowAt w g 4 (falses n)) (hn : n ≤ 1000000) : BoolsAt w g n (List.replicate n false) := by
  unfold BoolsAt
  refine ⟨by simp, .inr ⟨g, n, (falses n).toArray, by simp, Nat.zero_le _, h, by simp, by unfold maxLen; omega, by simp, by simp [List.map_replicate]⟩⟩

theorem rsnd_new {w u : World} {ses epo : Int} {g o cap gi gt ga : Nat} {c : List ByteArray} (hl : c.length ≤ 256) (hcap : c.length ≤ cap) (hcm : cap ≤ 9223372036854775807) (ku : Keeps [] w u) (hs : StrsAt w g o c)
    (hb : RowAt u gi 4 (falses c.length)) (ht : RowAt u gt 3 (zeros c.length)) (ha : RowAt u ga 3 (zeros c.length)) (him : w.heap.size ≤ gi) (htm : w.heap.size ≤ gt) (ham : w.heap.size ≤ ga)
    (n1 : gt ≠ ga) (n2 : gt ≠ gi) (n3 : ga ≠ gi) {bx : Nat} (hbx : bx = u.heap.size) {e : Ending} (he : e = .returned (ptr bx)) :
    RNewPost ses epo g c w e (u.alloc (.cells #[.int .i64 ses, .int .i64 epo, .slice (some ⟨g, o, none⟩) c.length cap, sl gi c.length c.length, sl gt c.length c.length, sl ga c.length c.length, .int .i64 0, .bool false] 67)).drew := by
  subst hbx
  have kx : Keeps [] u (u.alloc (.cells #[.int .i64 ses, .int .i64 epo, .slice (some ⟨g, o, none⟩) c.length cap, sl gi c.length c.length, sl gt c.length c.length, sl ga c.length c.length, .int .i64 0, .bool false] 67)).drew := ((Keeps.refl [] u).alloc _).drew
  have hsz := ku.size
  have htl := ht.lt
  have hal := ha.lt
  have hil := hb.lt
  refine ⟨⟨u.heap.size, gi, gt, ga, c.length, c.length, c.length, g, o, cap⟩, he, ⟨?_, (BoolsAt.of_row hb (by omega)).keeps kx (by simp), (hs.keeps ku (by simp)).keeps kx (by simp), (IntsAt.of_row ht (by omega)).keeps kx (by simp), (IntsAt.of_row ha (by omega)).keeps kx (by simp), hcap, hcm⟩, rfl, ?_, ?_, ku.trans kx⟩
  · have := RowAt.new u 67 [.int .i64 ses, .int .i64 epo, .slice (some ⟨g, o, none⟩) c.length cap, sl gi c.length c.length, sl gt c.length c.length, sl ga c.length c.length, .int .i64 0, .bool false]
    unfold snd0
    dsimp only
    unfold bslice
    rw [List.length_replicate]
    exact this
  · unfold RBlk.own
    simp only [List.nodup_cons, List.mem_cons, List.not_mem_nil, not_or, or_false, List.nodup_nil, and_true, not_false_eq_true]
    omega
  · intro x hx
    unfold RBlk.own at hx
    simp only [List.mem_cons, List.not_mem_nil, or_false] at hx
    omega

set_option maxRecDepth 100000 in
set_option maxHeartbeats 2000000 in
theorem rnew_any (ses epo : Int) (g o cap : Nat) (c : List ByteArray) (w : World) (hl : c.length ≤ 256) (hcap : c.length ≤ cap) (hcm : cap ≤ 9223372036854775807) (hs : StrsAt w g o c) :
    Calls Try.prog 30 #[.int .i64 ses, .int .i64 epo, .slice (some ⟨g, o, none⟩) c.length cap] w (RNewPost ses epo g c w) := by
  have HS := Lib.hid hs; clear hs
  have hmb := fun u : World => make_bools u c.length (by omega)
  have hmi := fun u : World => make_ints u c.length (by omega)
  go_enter Try.func30, Try.ntmps30
  go_wp2_with fail
  go_region
  all_goals
    go_wp2_with fail
    go_ret
    refine rsnd_new (u := _) (bx := _) hl hcap hcm ?_ HS.out ?_ ?_ ?_ ?_ ?_ ?_ ?_ ?_ ?_ ?_ rfl
    · (repeat (refine Keeps.alloc ?_ _)); exact Keeps.refl _ _
    · (repeat (first | (refine RowAt.new' ?_ ; simp; done) | refine RowAt.alloc ?_ _ | refine RowAt.drew ?_))
    · (repeat (first | (refine RowAt.new' ?_ ; simp; done) | refine RowAt.alloc ?_ _ | refine RowAt.drew ?_))
    · (repeat (first | (refine RowAt.new' ?_ ; simp; done) | refine RowAt.alloc ?_ _ | refine RowAt.drew ?_))
    all_goals (first | omega | (simp; done) | (simp; omega))
end Go.Proofs.Ytffcambjdlkfbaa
