/- Contracts of the library's slices functions that a sender calls (IndexFunc, ContainsFunc, DeleteFunc, Clone), at its own closures. -/
import Derived.Test.YtffcambjdlkfbaaAwakeA
import Derived.Test.YtffcambjdlkfbaaSendPl
import Derived.Lib.SliceRun
namespace Go.Proofs.Ytffcambjdlkfbaa
open Go.RowKit

/-- The ints from the head of block g on are xs. -/
def IntsAt (w : World) (g cap : Nat) (xs : List Int) : Prop := w.ownsRow 0 3 1 (.slice (some ⟨g, 0, none⟩) xs.length cap) xs.length (xs.map (Value.int .i64))
/-- The strings from place o of block g on are c. -/
def StrsAt (w : World) (g o : Nat) (c : List ByteArray) : Prop := ∀ i s, c[i]? = some s → w.cell? ⟨g, o + i, none⟩ = some (.string s)

section
variable {w w' : World} {g cap : Nat} {xs : List Int}
theorem IntsAt.cell (h : IntsAt w g cap xs) (i : Nat) (hi : i < xs.length) : w.cell? ⟨g, i, none⟩ = some (.int .i64 (xs.getD i 0)) := by
  rw [World.ownsRow.cellAt h i (by omega), List.getElem?_map, List.getD_eq_getElem?_getD, List.getElem?_eq_getElem hi]; rfl
theorem IntsAt.free (h : IntsAt w g cap xs) (i : Nat) : w.frozen? ⟨g, i, none⟩ = false := World.ownsRow.frozenAt h i
theorem IntsAt.set (h : IntsAt w g cap xs) (i : Nat) (x : Int) : IntsAt (w.setCell ⟨g, i, none⟩ (.int .i64 x)) g cap (xs.set i x) := by
  have := World.ownsRow.stored h i (.int .i64 x)
  unfold IntsAt
  rw [List.length_set, List.map_set]
  exact this.1
theorem IntsAt.lt (h : IntsAt w g cap xs) : g < w.heap.size := (World.ownsRow.lt h g rfl).2
theorem IntsAt.keeps {S : List Nat} (h : IntsAt w g cap xs) (k : Keeps S w w') (hg : g ∉ S) : IntsAt w' g cap xs := k.owns h (fun j hj => by simp [Value.ownBlock] at hj; subst hj; exact hg)
theorem IntsAt.len (h : IntsAt w g cap xs) : xs.length ≤ cap ∧ cap ≤ maxLen := by
  obtain ⟨_, h2⟩ := h
  rcases h2 with ⟨h2, _⟩ | ⟨g', cap', cur, hv, _, _, a, b, _⟩
  · cases h2
  · cases hv; exact ⟨a, b⟩
theorem IntsAt.reads (h : IntsAt w g cap xs) : Reads w (.slice (some ⟨g, 0, none⟩) xs.length cap) (xs.map (Value.int .i64)) := Reads.of_owns h
theorem StrsAt.keeps {S : List Nat} {g o : Nat} {c : List ByteArray} (h : StrsAt w g o c) (k : Keeps S w w') (hg : g ∉ S) : StrsAt w' g o c := fun i s hs => k.cell hg (h i s hs)
end

/-- A closure over one captured variable, asked of an int: in every world that keeps all but S it answers p, and only reads. -/
def Asks (fid : Nat) (cv : Value) (S : List Nat) (w0 : World) (p : Int → Bool) (xs : List Int) : Prop :=
  ∀ w, Keeps S w0 w → ∀ x ∈ xs, Calls Try.prog fid #[.int .i64 x, cv] w fun e w' => e = .returned (.bool (p x)) ∧ ∃ n, w.drewN n = w'

theorem Asks.keeps {fid : Nat} {cv : Value} {S : List Nat} {w0 w1 : World} {p : Int → Bool} {xs : List Int} (h : Asks fid cv S w0 p xs) (k : Keeps S w0 w1) : Asks fid cv S w1 p xs :=
  fun w hk x hx => h w (k.trans hk) x hx

/-- A function with a body is entered. -/
def Enters (fid : Nat) : Prop := ∀ (args : Array Value) (w : World), (callFunc fid args).run Try.prog w = .ok (.enter fid args) w
theorem enters61 : Enters 61 := fun _ _ => by kernel_rfl
theorem enters65 : Enters 65 := fun _ _ => by kernel_rfl
theorem enters87 : Enters 87 := fun _ _ => by kernel_rfl

/-- The first place that answers yes, or -1. -/
def firstYes (p : Int → Bool) (xs : List Int) : Int := if xs.any p then (xs.findIdx p : Nat) else -1

theorem firstYes_at (p : Int → Bool) (xs : List Int) (k : Nat) (hk : k < xs.length) (h1 : ∀ j, j < k → p (xs.getD j 0) = false) (h2 : p (xs.getD k 0) = true) : firstYes p xs = k := by
  have g2 : xs.getD k 0 = xs[k] := by rw [List.getD_eq_getElem?_getD, List.getElem?_eq_getElem hk]; rfl
  rw [g2] at h2
  unfold firstYes
  rw [if_pos (List.any_eq_true.2 ⟨_, List.getElem_mem hk, h2⟩)]
  congr 1
  rw [List.findIdx_eq hk]
  refine ⟨h2, fun j hj => ?_⟩
  have := h1 j hj
  rwa [List.getD_eq_getElem?_getD, List.getElem?_eq_getElem (by omega)] at this

theorem firstYes_none (p : Int → Bool) (xs : List Int) (h1 : ∀ j, j < xs.length → p (xs.getD j 0) = false) : firstYes p xs = -1 := by
  unfold firstYes
  rw [if_neg]
  intro h
  obtain ⟨x, hx, hp⟩ := List.any_eq_true.1 h
  obtain ⟨i, hi, rfl⟩ := List.mem_iff_getElem.1 hx
  have := h1 i hi
  rw [List.getD_eq_getElem?_getD, List.getElem?_eq_getElem hi] at this
  simp [hp] at this

theorem any_firstYes (p : Int → Bool) (xs : List Int) : decide (0 ≤ firstYes p xs) = xs.any p := by
  unfold firstYes
  cases xs.any p with
  | true => simp
  | false => simp

theorem getD_mem (xs : List Int) (k : Nat) (h : k < xs.length) : xs.getD k 0 ∈ xs := by
  rw [List.getD_eq_getElem?_getD, List.getElem?_eq_getElem h]; exact List.getElem_mem h

set_option maxRecDepth 100000 in
/-- IndexFunc over ints at a closure. -/
theorem indexFunc_some (fid cb : Nat) (S : List Nat) (p : Int → Bool) (g o cap : Nat) (xs : List Int) (w : World) (hl : xs.length ≤ 1000) (hE : Enters fid)
    (hc : ∀ i u, (xs.map (Value.int .i64))[i]? = some u → w.cell? ⟨g, o + i, none⟩ = some u) (ha : Asks fid (ptr cb) S w p xs) :
    Calls Try.prog 88 #[.slice (some ⟨g, o, none⟩) xs.length cap, .func (.func fid) #[] #[ptr cb]] w fun e w' => e = .returned (.int .i64 (firstYes p xs)) ∧ ∃ n, w.drewN n = w' := by
  have HC := Lib.hid hc; clear hc
  have HA := Lib.hid ha; clear ha
  unfold Enters at hE
  go_enter Try.func88, Try.ntmps88
  go_wp2_with fail
  go_loopw [8] (fun i wr => ∃ k : Nat, k ≤ xs.length ∧ i = .int .i64 k ∧ (∀ j, j < k → p (xs.getD j 0) = false) ∧ ∃ n, w.drewN n = wr) (fun i _ => xs.length - (intOf i).toNat)
  case atStart => exact ⟨0, Nat.zero_le _, rfl, fun j hj => by omega, 0, rfl⟩
  case round =>
    obtain ⟨k, hk, rfl, hno, n, rfl⟩ := hrel
    have hno := Lib.hid hno
    rename_i hno0
    clear hno0
    by_cases hlt : k < xs.length
    · have c1 := HC.out k (.int .i64 (xs.getD k 0)) (by rw [List.getElem?_map, List.getD_eq_getElem?_getD, List.getElem?_eq_getElem hlt]; rfl)
      have hcall := HA.out (w.drewN n) ((Keeps.of_drewN w n).mono (by simp)) _ (getD_mem xs k hlt)
      generalize hy : xs.getD k 0 = y at *
      have HY := Lib.hid hy; clear hy
      have HCall := Lib.hid hcall; clear hcall
      cases hp : p y with
      | true =>
        have HP := Lib.hid hp; clear hp
        go_wp2_with fail
        refine (HCall.out).mono ?_
        rw [HP.out]
        rintro e w' ⟨rfl, m, rfl⟩
        go_wp2_with fail
        go_ret
        exact ⟨ret_int (by rw [firstYes_at p xs k hlt hno.out (by rw [HY.out]; exact HP.out)]), n + m, by first | rfl | rw [World.drewN_drewN]⟩
      | false =>
        have HP := Lib.hid hp; clear hp
        go_wp2_with fail
        refine (HCall.out).mono ?_
        rw [HP.out]
        rintro e w' ⟨rfl, m, rfl⟩
        go_wp2_with fail
        go_roundw
        case rel => exact ⟨k + 1, by omega, by go_num, fun j hj => by
          rcases Nat.lt_or_ge j k with h | h
          · exact hno.out j h
          · obtain rfl : j = k := by omega
            rw [HY.out]; exact HP.out, n + m, by first | rfl | rw [World.drewN_drewN]⟩
        case measure => simp [intOf]; omega
    · obtain rfl : k = xs.length := by omega
      go_wp2_with fail
      go_ret
      exact ⟨ret_int (by rw [firstYes_none p xs hno.out]), n, rfl⟩

theorem indexFunc_zero (fid cb cap : Nat) (a : Option Addr) (w : World) : Calls Try.prog 88 #[.slice a 0 cap, .func (.func fid) #[] #[ptr cb]] w fun e w' => e = .returned (.int .i64 (-1)) ∧ w = w' := by
  go_enter Try.func88, Try.ntmps88
  go_wp2_with fail
  refine wp_loop_rounds 1 ?_
  rw [rounds_succ]
  go_wp2_with fail
  go_ret
  exact ⟨rfl, rfl⟩

theorem indexFunc_any (fid cb : Nat) (S : List Nat) (p : Int → Bool) (v : Value) (xs : List Int) (w : World) (hl : xs.length ≤ 1000) (hE : Enters fid)
    (hv : Reads w v (xs.map (Value.int .i64))) (ha : Asks fid (ptr cb) S w p xs) :
    Calls Try.prog 88 #[v, .func (.func fid) #[] #[ptr cb]] w fun e w' => e = .returned (.int .i64 (firstYes p xs)) ∧ ∃ n, w.drewN n = w' := by
  rcases hv with ⟨rfl, h0⟩ | ⟨g, o, cap, rfl, h1, h2, h3⟩
  · have : xs = [] := by simpa using h0
    subst this
    exact (indexFunc_zero fid cb 0 none w).mono fun _ _ ⟨h1, h2⟩ => ⟨h1, 0, h2⟩
  · rw [List.length_map]
    exact indexFunc_some fid cb S p g o cap xs w hl hE h3 ha

/-- ContainsFunc over ints at a closure. -/
theorem containsFunc_any (fid cb : Nat) (S : List Nat) (p : Int → Bool) (v : Value) (xs : List Int) (w : World) (hl : xs.length ≤ 1000) (hE : Enters fid)
    (hv : Reads w v (xs.map (Value.int .i64))) (ha : Asks fid (ptr cb) S w p xs) :
    Calls Try.prog 64 #[v, .func (.func fid) #[] #[ptr cb]] w fun e w' => e = .returned (.bool (xs.any p)) ∧ ∃ n, w.drewN n = w' := by
  have hi := indexFunc_any fid cb S p v xs w hl hE hv ha
  have HI := Lib.hid hi; clear hi hv ha
  have hany := any_firstYes p xs
  generalize firstYes p xs = r at *
  have HAny := Lib.hid hany; clear hany
  go_enter Try.func64, Try.ntmps64
  go_wp2_with fail
  refine (HI.out).mono ?_
  rintro e w' ⟨rfl, n, rfl⟩
  go_wp2_with fail
  go_ret
  exact ⟨ret_bool HAny.out, n, rfl⟩

theorem ask61 (s : ByteArray) (w : World) (hs : s.size ≤ 9223372036854775807) : Calls Try.prog 61 #[.string s] w fun e w' => e = .returned (.bool (decide (1000 < s.size))) ∧ w = w' := by
  go_enter Try.func61, Try.ntmps61
  go_wp2_with fail
  go_ret
  exact ⟨ret_bool (by rw [Bool.eq_iff_iff]; simp; omega), rfl⟩

/-- Is one of the texts long? -/
def longAny (c : List ByteArray) : Bool := c.any fun s => decide (1000 < s.size)

set_option maxRecDepth 100000 in
theorem indexStr_some (g o cap : Nat) (c : List ByteArray) (w : World) (hl : c.length ≤ cap) (hcap : cap ≤ 9223372036854775807) (hc : StrsAt w g o c) (hsz : ∀ s ∈ c, s.size ≤ 9223372036854775807) :
    Calls Try.prog 85 #[.slice (some ⟨g, o, none⟩) c.length cap, .func (.func 61) #[] #[]] w fun e w' => (∃ r : Int, e = .returned (.int .i64 r) ∧ (decide (0 ≤ r) = longAny c)) ∧ w = w' := by
  have HC := Lib.hid hc; clear hc
  have HS := Lib.hid hsz; clear hsz
  go_enter Try.func85, Try.ntmps85
  go_wp2_with fail
  go_loop [8] (fun i => ∃ k : Nat, k ≤ c.length ∧ i = .int .i64 k ∧ (∀ j s, j < k → c[j]? = some s → s.size ≤ 1000)) (fun i => c.length - (intOf i).toNat)
  case atStart => exact ⟨0, Nat.zero_le _, rfl, fun j s hj => by omega⟩
  case round =>
    obtain ⟨k, hk, rfl, hno⟩ := hrel
    have hno := Lib.hid hno
    rename_i hno0
    clear hno0
    by_cases hlt : k < c.length
    · have c1 := HC.out k c[k] (List.getElem?_eq_getElem hlt)
      have h3 := ask61 c[k] w (HS.out _ (List.getElem_mem hlt))
      have hk2 : c[k]? = some c[k] := List.getElem?_eq_getElem hlt
      generalize c[k] = y at *
      have HY := Lib.hid hk2; clear hk2
      have HCall := Lib.hid h3; clear h3
      by_cases hp : 1000 < y.size
      · have hd : decide (1000 < y.size) = true := by simpa using hp
        have HD := Lib.hid hd; clear hd
        have HP := Lib.hid hp; clear hp
        go_wp2_with fail
        refine (HCall.out).mono ?_
        rw [HD.out]
        rintro e w' ⟨rfl, rfl⟩
        go_wp2_with fail
        go_ret
        refine ⟨⟨_, rfl, ?_⟩, rfl⟩
        have : longAny c = true := List.any_eq_true.2 ⟨y, List.mem_of_getElem? HY.out, HD.out⟩
        rw [this]; simp
      · have hd : decide (1000 < y.size) = false := by simpa using hp
        have HD := Lib.hid hd; clear hd
        have HP := Lib.hid hp; clear hp
        go_wp2_with fail
        refine (HCall.out).mono ?_
        rw [HD.out]
        rintro e w' ⟨rfl, rfl⟩
        go_wp2_with fail
        go_round
        case rel => exact ⟨k + 1, by omega, by go_num, fun j s hj hs => by
          rcases Nat.lt_or_ge j k with h | h
          · exact hno.out j s h hs
          · obtain rfl : j = k := by omega
            rw [HY.out] at hs
            cases hs
            have := HP.out; omega⟩
        case measure => simp [intOf]; omega
    · obtain rfl : k = c.length := by omega
      go_wp2_with fail
      go_ret
      refine ⟨⟨_, rfl, ?_⟩, rfl⟩
      have : longAny c = false := by
        cases h : longAny c with
        | false => rfl
        | true =>
          obtain ⟨s, hs, hd⟩ := List.any_eq_true.1 h
          obtain ⟨i, hi, rfl⟩ := List.mem_iff_getElem.1 hs
          have := hno.out i _ hi (List.getElem?_eq_getElem hi)
          simp at hd; omega
      rw [this]; simp

theorem indexStr_zero (a : Option Addr) (cap : Nat) (w : World) : Calls Try.prog 85 #[.slice a 0 cap, .func (.func 61) #[] #[]] w fun e w' => e = .returned (.int .i64 (-1)) ∧ w = w' := by
  go_enter Try.func85, Try.ntmps85
  go_wp2_with fail
  refine wp_loop_rounds 1 ?_
  rw [rounds_succ]
  go_wp2_with fail
  go_ret
  exact ⟨rfl, rfl⟩

theorem containsStr_some (g o cap : Nat) (c : List ByteArray) (w : World) (hl : c.length ≤ cap) (hcap : cap ≤ 9223372036854775807) (hc : StrsAt w g o c) (hsz : ∀ s ∈ c, s.size ≤ 9223372036854775807) :
    Calls Try.prog 60 #[.slice (some ⟨g, o, none⟩) c.length cap, .func (.func 61) #[] #[]] w fun e w' => e = .returned (.bool (longAny c)) ∧ w = w' := by
  have hi := indexStr_some g o cap c w hl hcap hc hsz
  have HI := Lib.hid hi; clear hi hc hsz
  go_enter Try.func60, Try.ntmps60
  go_wp2_with fail
  refine (HI.out).mono ?_
  rintro e w' ⟨⟨r, rfl, hr⟩, rfl⟩
  have hr := Lib.hid hr
  go_wp2_with fail
  go_ret
  exact ⟨ret_bool (by first | rfl | exact hr.out), rfl⟩

theorem containsStr_zero (a : Option Addr) (cap : Nat) (w : World) : Calls Try.prog 60 #[.slice a 0 cap, .func (.func 61) #[] #[]] w fun e w' => e = .returned (.bool false) ∧ w = w' := by
  go_enter Try.func60, Try.ntmps60
  go_wp2_with fail
  refine (indexStr_zero a cap w).mono ?_
  rintro e w' ⟨rfl, rfl⟩
  go_wp2_with fail
  go_ret
  exact ⟨rfl, rfl⟩
end Go.Proofs.Ytffcambjdlkfbaa
