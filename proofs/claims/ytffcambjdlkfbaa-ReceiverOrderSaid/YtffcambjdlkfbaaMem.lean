/- Words on memory that the proofs of this seat share: what a call keeps of the blocks that were there, and what a slice reads as. No condition. -/
import Derived.WalkKit
import Derived.OneCell
import Derived.Lib.Hide
import Derived.WalkLawsBesides
import Derived.WalkSpells
import Derived.WalkSmall
import Derived.RegionTactic
import Derived.ChangeAlike
import Derived.Outline
import Derived.Deep.QuietTactic
import Derived.BigQuiet
import Derived.Deep.RegionHeld3
import Derived.Deep.LoopGhost
import Derived.Deep.DeepFit
import Derived.Deep.DeepMust
import Derived.Laws.MakeOwn
namespace Go.Proofs.Ytffcambjdlkfbaa
open Go.RowKit

/-- Of the blocks that were there all but those of S are as they were; the streams are as they were. -/
structure Keeps (S : List Nat) (w w' : World) : Prop where
  os : w'.os = w.os
  tape : w'.tape = w.tape
  output : w'.output = w.output
  size : w.heap.size ≤ w'.heap.size
  block : ∀ k, k < w.heap.size → k ∉ S → w'.heap[k]? = w.heap[k]?

theorem Keeps.refl (S : List Nat) (w : World) : Keeps S w w := ⟨rfl, rfl, rfl, Nat.le_refl _, fun _ _ _ => rfl⟩

theorem Keeps.trans {S : List Nat} {a b c : World} (h : Keeps S a b) (k : Keeps S b c) : Keeps S a c :=
  ⟨k.os.trans h.os, k.tape.trans h.tape, k.output.trans h.output, Nat.le_trans h.size k.size,
    fun i hi hs => (k.block i (Nat.lt_of_lt_of_le hi h.size) hs).trans (h.block i hi hs)⟩

theorem Keeps.mono {S T : List Nat} {w w' : World} (h : Keeps S w w') (hs : ∀ k ∈ S, k ∈ T) : Keeps T w w' :=
  ⟨h.os, h.tape, h.output, h.size, fun k hk ht => h.block k hk (fun e => ht (hs k e))⟩

/-- A further step whose turned blocks are among the first's, or new since. -/
theorem Keeps.then {S T : List Nat} {a b c : World} (h : Keeps S a b) (k : Keeps T b c) (hs : ∀ i ∈ T, i ∈ S ∨ a.heap.size ≤ i) : Keeps S a c :=
  ⟨k.os.trans h.os, k.tape.trans h.tape, k.output.trans h.output, Nat.le_trans h.size k.size,
    fun i hi hn => (k.block i (Nat.lt_of_lt_of_le hi h.size) (fun e => by rcases hs i e with e | e; exact hn e; omega)).trans (h.block i hi hn)⟩

theorem Keeps.drew {S : List Nat} {a w : World} (h : Keeps S a w) : Keeps S a w.drew := ⟨h.os, h.tape, h.output, h.size, h.block⟩
theorem Keeps.drewN {S : List Nat} {a w : World} (h : Keeps S a w) (n : Nat) : Keeps S a (w.drewN n) := h.trans ⟨rfl, rfl, rfl, Nat.le_refl _, fun _ _ _ => rfl⟩

theorem Keeps.alloc {S : List Nat} {a w : World} (h : Keeps S a w) (o : Obj) : Keeps S a (w.alloc o) :=
  h.trans ⟨rfl, rfl, rfl, by simp, fun k hk _ => Below.heap_alloc _ _ _ hk⟩

theorem Keeps.setCell {S : List Nat} {a w : World} (h : Keeps S a w) {p : Addr} (hp : p.block ∈ S ∨ a.heap.size ≤ p.block) (u : Value) : Keeps S a (w.setCell p u) :=
  Keeps.then (T := [p.block]) h ⟨rfl, rfl, rfl, by simp [World.setCell], fun k _ hk => Below.heap_setCell _ _ _ _ (by simpa using hk)⟩ (by simpa using hp)

theorem Keeps.grown {S : List Nat} {a w w' : World} {row : Option Nat} (h : Keeps S a w) (hg : w.grownBy w' row) (hr : ∀ k, row = some k → k ∈ S ∨ a.heap.size ≤ k) : Keeps S a w' :=
  Keeps.then (T := row.toList) h ⟨hg.os, hg.tape, hg.output, hg.size, fun k hk hn => hg.block k hk (fun e => hn (by rw [← e]; simp))⟩ (fun i hi => hr i (by simpa using hi))

theorem Keeps.of_below {w w' : World} (h : Below w.heap.size w w') : Keeps [] w w' := ⟨h.os, h.tape, h.output, h.size, fun k hk _ => h.block k hk⟩

theorem Keeps.below {S : List Nat} {B : Nat} {w w' : World} (h : Keeps S w w') (hB : B ≤ w.heap.size) (hs : ∀ k ∈ S, B ≤ k) : Below B w w' :=
  ⟨h.os, h.tape, h.output, h.size, fun k hk => h.block k (by omega) (fun e => by have := hs k e; omega)⟩

theorem Keeps.cell {S : List Nat} {w w' : World} (h : Keeps S w w') {p : Addr} {v : Value} (hp : p.block ∉ S) (hv : w.cell? p = some v) : w'.cell? p = some v :=
  (World.cell?_of_block (h.block p.block (World.block_lt_of_cell? w p hv) hp)).trans hv

theorem Keeps.heap {S : List Nat} {w w' : World} (h : Keeps S w w') {b : Nat} {o : Obj} (hp : b ∉ S) (hv : w.heap[b]? = some o) : w'.heap[b]? = some o :=
  (h.block b (lt_of_block hv) hp).trans hv

theorem Keeps.owns {S : List Nat} {w w' : World} (h : Keeps S w w') {base : Nat} {e : TypeId} {size : Nat} {v : Value} {n : Nat} {xs : List Value}
    (ho : w.ownsRow base e size v n xs) (hne : ∀ k, v.ownBlock = some k → k ∉ S) : w'.ownsRow base e size v n xs := by
  obtain ⟨h1, h2⟩ := ho
  refine ⟨h1, ?_⟩
  rcases h2 with h2 | ⟨g, cap, cur, rfl, hb, hg, rest⟩
  · exact .inl h2
  · exact .inr ⟨g, cap, cur, rfl, hb, h.heap (hne g rfl) hg, rest⟩

/-- A quiet callee's contract in the form 'w = w'', met inside a region that draws. -/
theorem quiet_same {P : Program} {f : FuncId} {args : Array Value} {w : World} {n : Nat} {v : Value}
    (h : Calls P f args (w.drewN n) fun e w' => e = .returned v ∧ w.drewN n = w') : Calls P f args (w.drewN n) fun e w'' => e = .returned v ∧ ∃ m, w'' = w.drewN m :=
  h.mono fun _ _ ⟨he, hm⟩ => ⟨he, n, hm.symm⟩
theorem drewN_heap (w : World) (n : Nat) : (w.drewN n).heap = w.heap := rfl
theorem Keeps.of_drewN (w : World) (n : Nat) : Keeps [] w (w.drewN n) := ⟨rfl, rfl, rfl, Nat.le_refl _, fun _ _ _ => rfl⟩

/-- A block known whole: its cells, of type T. -/
def RowAt (w : World) (g : Nat) (T : TypeId) (xs : List Value) : Prop := w.heap[g]? = some (.cells xs.toArray T (0, 0))
section
variable {w w' : World} {g : Nat} {T : TypeId} {xs : List Value}
theorem RowAt.cell (h : RowAt w g T xs) (i : Nat) : w.cell? ⟨g, i, none⟩ = xs[i]? := by simp [World.cell?, show w.heap[g]? = _ from h]
theorem RowAt.free (h : RowAt w g T xs) (i : Nat) : w.frozen? ⟨g, i, none⟩ = false := by simp [World.frozen?, show w.heap[g]? = _ from h]
theorem RowAt.lt (h : RowAt w g T xs) : g < w.heap.size := lt_of_block h
theorem RowAt.set (h : RowAt w g T xs) (i : Nat) (v : Value) : RowAt (w.setCell ⟨g, i, none⟩ v) g T (xs.set i v) := by
  unfold RowAt at h ⊢
  simp only [World.setCell, Array.getElem?_modify]
  rw [if_pos trivial, h]
  simp
theorem RowAt.keeps {S : List Nat} (h : RowAt w g T xs) (k : Keeps S w w') (hg : g ∉ S) : RowAt w' g T xs := k.heap hg h
theorem RowAt.drew (h : RowAt w g T xs) : RowAt w.drew g T xs := h
theorem RowAt.other (h : RowAt w g T xs) {p : Addr} (hp : p.block ≠ g) (v : Value) : RowAt (w.setCell p v) g T xs := (Below.heap_setCell _ _ _ _ (fun e => hp e.symm)).trans h
theorem RowAt.new (w : World) (T : TypeId) (xs : List Value) : RowAt (w.alloc (.cells xs.toArray T)) w.heap.size T xs := heap_alloc_new w _
theorem RowAt.alloc (h : RowAt w g T xs) (o : Obj) : RowAt (w.alloc o) g T xs := (Below.heap_alloc _ _ _ h.lt).trans h
end

/-- What a slice reads as: its cells, one an element. -/
def Reads (w : World) (v : Value) (xs : List Value) : Prop :=
  (v = .slice none 0 0 ∧ xs = []) ∨
  ∃ g o cap, v = .slice (some ⟨g, o, none⟩) xs.length cap ∧ xs.length ≤ cap ∧ cap ≤ maxLen ∧ ∀ i u, xs[i]? = some u → w.cell? ⟨g, o + i, none⟩ = some u

theorem Reads.of_owns {w : World} {base : Nat} {e : TypeId} {v : Value} {n : Nat} {xs : List Value} (h : w.ownsRow base e 1 v n xs) : Reads w v xs := by
  have hc := fun g hg => h.cells (g := g) hg
  obtain ⟨h1, h2⟩ := h
  rcases h2 with ⟨rfl, h0⟩ | ⟨g, cap, cur, rfl, hb, hg, hn, hm, _⟩
  · subst h0; exact .inl ⟨rfl, by simpa using h1⟩
  · obtain rfl : xs.length = n := by omega
    refine .inr ⟨g, 0, cap, rfl, hn, hm, fun i u hu => ?_⟩
    have := hc g rfl i u hu
    have e : (⟨g, 0, none⟩ : Addr).add i = ⟨g, 0 + i, none⟩ := by unfold Addr.add; split <;> simp_all
    rwa [e] at this

end Go.Proofs.Ytffcambjdlkfbaa
