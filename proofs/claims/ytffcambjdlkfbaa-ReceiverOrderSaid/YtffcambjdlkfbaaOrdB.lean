/- The walk of the law ReceiverOrder: true, in whatever memory, of any input. -/
import Derived.Test.YtffcambjdlkfbaaOrdA
namespace Go.Proofs.Ytffcambjdlkfbaa
open Go.RowKit

/-- The strings from place o of block g on. -/
def StrsIn (w : World) (g o : Nat) (c : List ByteArray) : Prop := ∀ j s, c[j]? = some s → w.cell? ⟨g, o + j, none⟩ = some (.string s)
/-- What the walk is told of bytes that came in: there are none, or they lie here. -/
def IsBytes (w : World) (a : Option Addr) (xs : List Nat) : Prop := xs = [] ∨ ∃ g o : Nat, a = some ⟨g, o, none⟩ ∧ ∀ (i x : Nat), xs[i]? = some x → x < 256 ∧ w.cell? ⟨g, o + i, none⟩ = some (.int .u8 x)

theorem env_cells (w : World) (v : Value) (n : Int) : (((w.alloc (.cells #[v] 44)).alloc (.cells #[.int .i64 n] 3)).cell? ⟨w.heap.size, 0, none⟩ = some v ∧ ((w.alloc (.cells #[v] 44)).alloc (.cells #[.int .i64 n] 3)).cell? ⟨w.heap.size + 1, 0, none⟩ = some (.int .i64 n)) ∧ Keeps [] w ((w.alloc (.cells #[v] 44)).alloc (.cells #[.int .i64 n] 3)) := by
  have h1 := (RowAt.new w 44 [v]).alloc (.cells #[.int .i64 n] 3)
  have h2 := RowAt.fresh (w := w.alloc (.cells #[v] 44)) (T := 3) (xs := [.int .i64 n]) (g := w.heap.size + 1) (by simp)
  exact ⟨⟨by rw [h1.cell]; rfl, by rw [RowAt.cell h2]; rfl⟩, ((Keeps.refl [] w).alloc _).alloc _⟩

set_option maxRecDepth 100000 in
theorem order_none (ac : Option Addr) (lenc capc : Nat) (a : Option Addr) (len cap : Nat) (w : World) (h1 : lenc < 1) : Calls Try.prog 8 #[.slice ac lenc capc, .slice a len cap] w (AwakePost w) := by
  have t1 : decide ((lenc : Int) < 1) = true := decide_eq_true (by omega)
  have t1' : decide (lenc < 1) = true := decide_eq_true (by omega)
  have he := env_cells w (.slice ac lenc capc) lenc
  have HE := Lib.hid he
  clear he
  go_enter Try.func8, Try.ntmps8
  go_wp2_with fail
  refine (awake14 _).mono ?_
  rintro e w1 ⟨rfl, k1⟩
  have e1 := k1.cell (by simp) HE.out.1.2
  have k1 := Lib.hid (HE.out.2.trans k1)
  go_wp2_with fail
  refine (awake14 _).mono ?_
  rintro e w2 ⟨rfl, k2⟩
  have k2 := Lib.hid k2
  go_wp2_with fail
  go_ret
  exact ⟨rfl, k1.out.trans k2.out⟩

set_option maxRecDepth 100000 in
theorem order_many (ac : Option Addr) (lenc capc : Nat) (a : Option Addr) (len cap : Nat) (w : World) (h1 : ¬ lenc < 1) (h2 : 50 < lenc) : Calls Try.prog 8 #[.slice ac lenc capc, .slice a len cap] w (AwakePost w) := by
  have t1 : decide ((lenc : Int) < 1) = false := decide_eq_false (by omega)
  have t1' : decide (lenc < 1) = false := decide_eq_false (by omega)
  have t2 : decide ((50 : Int) < (lenc : Int)) = true := decide_eq_true (by omega)
  have he := env_cells w (.slice ac lenc capc) lenc
  have HE := Lib.hid he
  clear he
  go_enter Try.func8, Try.ntmps8
  go_wp2_with fail
  refine (awake14 _).mono ?_
  rintro e w1 ⟨rfl, k1⟩
  have e1 := k1.cell (by simp) HE.out.1.2
  have k1 := Lib.hid (HE.out.2.trans k1)
  go_wp2_with fail
  refine (awake14 _).mono ?_
  rintro e w2 ⟨rfl, k2⟩
  have k2 := Lib.hid k2
  go_wp2_with fail
  go_ret
  exact ⟨rfl, k1.out.trans k2.out⟩

set_option maxRecDepth 100000 in
theorem order_long (ac : Option Addr) (lenc capc : Nat) (a : Option Addr) (len cap : Nat) (w : World) (h1 : ¬ lenc < 1) (h2 : ¬ 50 < lenc) (h3 : 300 < len) : Calls Try.prog 8 #[.slice ac lenc capc, .slice a len cap] w (AwakePost w) := by
  have t1 : decide ((lenc : Int) < 1) = false := decide_eq_false (by omega)
  have t1' : decide (lenc < 1) = false := decide_eq_false (by omega)
  have t2 : decide ((50 : Int) < (lenc : Int)) = false := decide_eq_false (by omega)
  have t3 : decide ((300 : Int) < (len : Int)) = true := decide_eq_true (by omega)
  have he := env_cells w (.slice ac lenc capc) lenc
  have HE := Lib.hid he
  clear he
  go_enter Try.func8, Try.ntmps8
  go_wp2_with fail
  refine (awake14 _).mono ?_
  rintro e w1 ⟨rfl, k1⟩
  have e1 := k1.cell (by simp) HE.out.1.2
  have k1 := Lib.hid (HE.out.2.trans k1)
  go_wp2_with fail
  refine (awake14 _).mono ?_
  rintro e w2 ⟨rfl, k2⟩
  have k2 := Lib.hid k2
  go_wp2_with fail
  go_ret
  exact ⟨rfl, k1.out.trans k2.out⟩

theorem take58_lit (b m g cap k t : Nat) (r : Rcv) (c : List ByteArray) (rv nv cv gch o capc i : Nat) (x : Int) (hx : x = i) (w : World) (h : RcvAt w b m g cap k t r) (ht : t ≤ 100000) (he : OrdEnv w rv nv cv b (some ⟨gch, o, none⟩) c.length capc) (hi : i < c.length)
    (hcell : w.cell? ⟨gch, o + i, none⟩ = some (.string (c.getD i noText))) (hn1 : rv ∉ [m, g, k]) (hn2 : nv ∉ [m, g, k]) (hn3 : cv ∉ [m, g, k]) (hn4 : gch ∉ [m, g, k]) :
    Calls Try.prog 58 #[.int .i64 x, ptr rv, ptr nv, ptr cv] w fun e w' => e = .returned (.tuple #[]) ∧ RcvAt w' b m g cap k (t + 1) (r.take (ordF c i)) ∧ Keeps [m, g, k] w w' := by
  subst hx; exact take58 b m g cap k t r c rv nv cv gch o capc i w h ht he hi hcell hn1 hn2 hn3 hn4 _ rfl

section
variable {w0 w' : World} {b m g cap k t rv nv n : Nat} {r : Rcv} (h : w'.cell? ⟨rv, 0, none⟩ = some (ptr b) ∧ w'.cell? ⟨nv, 0, none⟩ = some (.int .i64 n) ∧ RcvAt w' b m g cap k t r ∧ Keeps [] w0 w')
include h
theorem doneO (q : Bool) (hq : (baseL r.l == r.l.length) = q) : Calls Try.prog 52 #[ptr b] w' fun e w'' => e = .returned (.bool q) ∧ (w''.cell? ⟨rv, 0, none⟩ = some (ptr b) ∧ w''.cell? ⟨nv, 0, none⟩ = some (.int .i64 n) ∧ RcvAt w'' b m g cap k t r ∧ Keeps [] w0 w'') :=
  (done52 b m g cap k t r w' h.2.2.1 q hq).mono fun _ _ ⟨h1, hk⟩ => ⟨h1, hk.cell (by simp) h.1, hk.cell (by simp) h.2.1, h.2.2.1.quiet hk, h.2.2.2.trans hk⟩
theorem dropsO (i : Nat) (hi : i < 20) (x : Int) (hx : r.d.getD i 0 = x) (j : Int) (hj : j = i) : Calls Try.prog 53 #[ptr b, .int .i64 j] w' fun e w'' => e = .returned (.int .i64 x) ∧ w' = w'' := by
  subst hj; exact drops53 b m g cap k t r w' h.2.2.1 i hi x hx
theorem thereO : Calls Try.prog 57 #[ptr b] w' fun e w'' => ∃ mm, e = .returned (ptr mm) ∧ MapAt w'' mm r.l ∧ (w''.cell? ⟨rv, 0, none⟩ = some (ptr b) ∧ w''.cell? ⟨nv, 0, none⟩ = some (.int .i64 n) ∧ RcvAt w'' b m g cap k t r ∧ Keeps [] w0 w'') :=
  (there57 b m g cap k t r w' h.2.2.1).mono fun _ _ ⟨h1, hm, hk, _⟩ => ⟨_, h1, hm, hk.cell (by simp) h.1, hk.cell (by simp) h.2.1, h.2.2.1.quiet hk, h.2.2.2.trans hk⟩
end

set_option maxRecDepth 100000 in
set_option maxHeartbeats 8000000 in
theorem order_few (gch o capc : Nat) (c : List ByteArray) (a : Option Addr) (cap' : Nat) (xs : List Nat) (w : World) (hc1 : 1 ≤ c.length) (hc2 : c.length ≤ 50) (hlc : c.length ≤ capc) (hcm : capc ≤ 9223372036854775807) (hcs : StrsIn w gch o c) (hl : xs.length ≤ 300) (hlx : xs.length ≤ cap') (hxm : cap' ≤ 9223372036854775807) (hxs : IsBytes w a xs) :
    Calls Try.prog 8 #[.slice (some ⟨gch, o, none⟩) c.length capc, .slice a xs.length cap'] w (AwakePost w) := by
  have hcell : ∀ i, i < c.length → w.cell? ⟨gch, o + i, none⟩ = some (.string (c.getD i noText)) := fun i hi => by
    rw [List.getD_eq_getElem?_getD, List.getElem?_eq_getElem hi]
    exact hcs i c[i] (List.getElem?_eq_getElem hi)
  have hgl : gch < w.heap.size := World.block_lt_of_cell? w ⟨gch, o + 0, none⟩ (hcell 0 (by omega))
  have HCell := Lib.hid hcell
  have HXs := Lib.hid hxs
  have t1 : decide ((c.length : Int) < 1) = false := decide_eq_false (by omega)
  have t1' : decide (c.length < 1) = false := decide_eq_false (by omega)
  have t2 : decide ((50 : Int) < (c.length : Int)) = false := decide_eq_false (by omega)
  have t3 : decide ((300 : Int) < (xs.length : Int)) = false := decide_eq_false (by omega)
  have HE := Lib.hid (env_cells w (.slice (some ⟨gch, o, none⟩) c.length capc) c.length)
  clear hcs hcell hxs
  go_enter Try.func8, Try.ntmps8
  go_wp2_with fail
  refine (awake14 _).mono ?_
  rintro e w1 ⟨rfl, k1⟩
  have ec := k1.cell (by simp) HE.out.1.1
  have en := k1.cell (by simp) HE.out.1.2
  have K1 := Lib.hid (HE.out.2.trans k1)
  have HEc := Lib.hid ec
  have HEn := Lib.hid en
  clear k1
  generalize hcv : w.heap.size = cv at *
  obtain ⟨nv, hnv⟩ : ∃ nv, cv + 1 = nv := ⟨_, rfl⟩
  rw [hnv] at HEn en ⊢
  go_wp2_with fail
  go_loop [6, 37] (fun s v => ∃ i : Nat, i ≤ c.length ∧ v = .int .i64 i ∧ s = .string (mkB (joinC c i)) ∧ ∀ j, j < i → (c.getD j noText).size ≤ 1000) (fun _ v => c.length - (intOf v).toNat)
  case atStart => exact ⟨0, Nat.zero_le _, rfl, rfl, fun j hj => by omega⟩
  case round =>
    obtain ⟨i, hi, rfl, rfl, hsm⟩ := hrel
    have HSm := Lib.hid hsm; clear hsm
    by_cases hlt : i < c.length
    · have ci := K1.out.cell (by simp) (HCell.out i hlt)
      have HJ := Lib.hid (joinC_succ c i hlt)
      have hjl : (joinC c i).length ≤ 50000 := by
        have : ∀ q, q ≤ i → (joinC c q).length ≤ q * 1000 := by
          intro q
          induction q with
          | zero => intro _; simp [joinC_zero]
          | succ q ih =>
            intro hq
            rw [joinC_succ c q (by omega), List.length_append, Nat.succ_mul]
            have a1 := ih (by omega)
            have a2 : (c.getD q noText).data.toList.length ≤ 1000 := HSm.out q (by omega)
            omega
        have := this i (Nat.le_refl _)
        omega
      have hjs : (mkB (joinC c i)).size ≤ 50000 := by rw [size_mkB]; exact hjl
      generalize hX : mkB (joinC c i) = X at *
      have HX := Lib.hid hX
      generalize hY : c.getD i noText = Y at *
      have HY := Lib.hid hY
      clear hX hY hjl
      by_cases hsz : 1000 < Y.size
      · have t4 : decide ((1000 : Int) < (Y.size : Int)) = true := decide_eq_true (by omega)
        clear hsz
        go_wp2_with fail
        go_ret
        exact ⟨rfl, K1.out⟩
      · have t4 : decide ((1000 : Int) < (Y.size : Int)) = false := decide_eq_false (by omega)
        have hsz2 : Y.size ≤ 1000 := by omega
        clear hsz
        go_wp2_with fail
        go_round
        case rel => exact ⟨i + 1, by omega, by go_num, by rw [HJ.out, ← mkB_append, HX.out], fun j hj => by
          rcases Nat.lt_or_ge j i with h | h
          · exact HSm.out j h
          · obtain rfl : j = i := by omega
            rw [HY.out]; exact hsz2⟩
        case measure => simp [intOf]; omega
    · obtain rfl : i = c.length := by omega
      have hall : ∀ j, (c.getD j noText).size ≤ 1000 := fun j => by
        rcases Nat.lt_or_ge j c.length with h | h
        · exact HSm.out j h
        · rw [List.getD_eq_getElem?_getD, List.getElem?_eq_none h]; decide
      have HAll := Lib.hid hall
      obtain ⟨A, hA⟩ : ∃ A, mkB (joinC c c.length) = A := ⟨_, rfl⟩
      rw [hA]
      have HA := Lib.hid hA
      clear hall hA
      go_wp2_with fail
      refine (new_full 1 2 c.length _ rfl 1 2 c.length rfl rfl rfl _ hc1 (by omega) (by decide) (by decide)).mono ?_
      rintro e w2 ⟨b, m, g, cap, k, rfl, p2, n2, k2⟩
      have z1 := K1.out.size
      have hcvn : cv + 1 < w1.heap.size := by rw [hnv]; exact World.block_lt_of_cell? w1 ⟨nv, 0, none⟩ HEn.out
      have kb := (Keeps.refl [] w2).alloc (.cells #[ptr b] 71)
      have rb := RowAt.new w2 71 [ptr b]
      have cr : (w2.alloc (.cells #[ptr b] 71)).cell? ⟨w2.heap.size, 0, none⟩ = some (ptr b) := by rw [rb.cell]; rfl
      have p3 := p2.quiet kb
      obtain ⟨l1, l2, l3, l4⟩ := p2.lt
      have HEnv := Lib.hid (show OrdEnv (w2.alloc (.cells #[ptr b] 71)) w2.heap.size nv cv b (some ⟨gch, o, none⟩) c.length capc from ⟨cr, (k2.trans kb).cell (by simp) HEn.out, (k2.trans kb).cell (by simp) HEc.out⟩)
      have K3 := Lib.hid (K1.out.trans (k2.trans kb))
      have hx1 : w2.heap.size ∉ [m, g, k] := by simp; omega
      have hx2 : nv ∉ [m, g, k] := by simp; omega
      have hx3 : cv ∉ [m, g, k] := by simp; omega
      have hx4 : gch ∉ [m, g, k] := by simp; omega
      have HN := Lib.hid (show w.heap.size ≤ m ∧ w.heap.size ≤ g ∧ w.heap.size ≤ k from by omega)
      have HX1 := Lib.hid hx1
      have HX2 := Lib.hid hx2
      have HX3 := Lib.hid hx3
      have HX4 := Lib.hid hx4
      have P3 := Lib.hid p3
      have O3 := Lib.hid (ord_new c hc1 hc2)
      clear k2 kb rb cr p3 p2 n2 hx1 hx2 hx3 hx4 z1 hcvn l1 l2 l3 l4 ec en HEc HEn
      go_wp2_with fail
      generalize w2.alloc (.cells #[ptr b] 71) = w3 at *
      generalize w2.heap.size = rv at *
      generalize newR 1 2 c.length = r0 at *
      go_loopw [56] (fun v wr => ∃ i : Nat, i ≤ xs.length ∧ v = .int .i64 i ∧ ∃ r : Rcv, RcvAt wr b m g cap k i r ∧ Ord c i r ∧ OrdEnv wr rv nv cv b (some ⟨gch, o, none⟩) c.length capc ∧ Keeps [] w wr) (fun v _ => xs.length - (intOf v).toNat)
      case atStart => exact ⟨0, Nat.zero_le _, rfl, r0, P3.out, O3.out, HEnv.out, K3.out⟩
      case round =>
        obtain ⟨i, hi, rfl, r, hp, ho, hv, hk⟩ := hrel
        have HP := Lib.hid hp
        have HO := Lib.hid ho
        have HV := Lib.hid hv
        have HK := Lib.hid hk
        have en := hv.en
        clear hp ho hv hk
        by_cases hlt : i < xs.length
        · rcases HXs.out with hnil | ⟨g', o', rfl, hx⟩
          · rw [hnil] at hlt; simp at hlt
          · obtain ⟨hx256, hxc⟩ := hx i xs[i] (List.getElem?_eq_getElem hlt)
            have hxc := HK.out.cell (by simp) hxc
            generalize xs[i] = x at *
            clear hx
            have hmod : x % c.length < c.length := Nat.mod_lt _ (by omega)
            go_wp2_with fail
            refine (take58_lit b m g cap k i r c rv nv cv gch o capc (x % c.length) _ (by first | (simp; done) | (rw [Int.tmod_eq_emod_of_nonneg (by omega)]; simp) | omega) _ HP.out (by omega) HV.out hmod (HK.out.cell (by simp) (HCell.out _ hmod)) HX1.out HX2.out HX3.out HX4.out).mono ?_
            rintro e w4 ⟨rfl, p4, k4⟩
            have P4 := Lib.hid p4
            have O4 := Lib.hid (ord_take HO.out hc2 HAll.out (x % c.length) hmod).1
            have V4 := Lib.hid (HV.out.keeps k4 HX1.out HX2.out HX3.out)
            have K4 := Lib.hid (keeps_new HK.out k4 (by have := HN.out; simp; omega))
            clear p4 k4
            go_wp2_with fail
            go_roundw
            case rel => exact ⟨i + 1, by omega, by go_num, _, P4.out, O4.out, V4.out, K4.out⟩
            case measure => simp [intOf]; omega
        · obtain rfl : i = xs.length := by omega
          go_wp2_with fail
          go_loopw [68] (fun v wr => ∃ i : Nat, i ≤ c.length ∧ v = .int .i64 i ∧ ∃ r : Rcv, RcvAt wr b m g cap k (xs.length + i) r ∧ Ord c (xs.length + i) r ∧ (∀ j, c.length - i ≤ j → j < c.length → at' r.l j = true) ∧ OrdEnv wr rv nv cv b (some ⟨gch, o, none⟩) c.length capc ∧ Keeps [] w wr) (fun v _ => c.length - (intOf v).toNat)
          case atStart => exact ⟨0, Nat.zero_le _, rfl, r, HP.out, HO.out, fun j h1 h2 => by omega, HV.out, HK.out⟩
          case round =>
            obtain ⟨i, hi, rfl, r2, hp, ho, hat, hv, hk⟩ := hrel
            have HP2 := Lib.hid hp
            have HO2 := Lib.hid ho
            have HV2 := Lib.hid hv
            have HK2 := Lib.hid hk
            have HAt := Lib.hid hat
            have en2 := hv.en
            have er2 := hv.er
            clear hp ho hv hk hat
            by_cases hlt2 : i < c.length
            · have hq : c.length - 1 - i < c.length := by omega
              go_wp2_with fail
              refine (take58_lit b m g cap k (xs.length + i) r2 c rv nv cv gch o capc (c.length - 1 - i) _ (by omega) _ HP2.out (by omega) HV2.out hq (HK2.out.cell (by simp) (HCell.out _ hq)) HX1.out HX2.out HX3.out HX4.out).mono ?_
              rintro e w4 ⟨rfl, p4, k4⟩
              have P4 := Lib.hid p4
              have OT := ord_take HO2.out hc2 HAll.out (c.length - 1 - i) hq
              have O4 := Lib.hid OT
              have V4 := Lib.hid (HV2.out.keeps k4 HX1.out HX2.out HX3.out)
              have K4 := Lib.hid (keeps_new HK2.out k4 (by have := HN.out; simp; omega))
              clear p4 k4 OT
              go_wp2_with fail
              go_roundw
              case rel => exact ⟨i + 1, by omega, by go_num, _, P4.out, O4.out.1, fun j h1 h2 => by
                rcases Nat.lt_or_ge j (c.length - i) with h | h
                · obtain rfl : j = c.length - 1 - i := by omega
                  exact O4.out.2.1
                · exact O4.out.2.2 j (HAt.out j h h2), V4.out, K4.out⟩
              case measure => simp [intOf]; omega
            · obtain rfl : i = c.length := by omega
              obtain ⟨q1, q2, q3, q4⟩ := ord_end HO2.out (fun j hj => HAt.out j (by omega) hj)
              have HQ1 := Lib.hid q1
              have HQ2 := Lib.hid (show (countL r2.l : Int) = (c.length : Int) from by rw [q2])
              have HQ3 := Lib.hid (show r2.d.getD 9 0 = (xs.length : Int) from by rw [q3]; omega)
              have HQ4 := Lib.hid (show dataS r2 = A from by rw [q4, HA.out])
              clear q1 q2 q3 q4
              go_wp2_with fail
              refine (data54 b m g cap k _ r2 _ HP2.out HO2.out.good A 0 HQ4.out (by rw [HQ1.out]; rfl)).mono ?_
              rintro e w5 ⟨rfl, k5⟩
              have hS0 := Lib.hid (show w5.drew.cell? ⟨rv, 0, none⟩ = some (ptr b) ∧ w5.drew.cell? ⟨nv, 0, none⟩ = some (.int .i64 c.length) ∧ RcvAt w5.drew b m g cap k (xs.length + c.length) r2 ∧ Keeps [] w w5.drew from ⟨k5.cell (by simp) HV2.out.er, k5.cell (by simp) HV2.out.en, (HP2.out.quiet k5).drew, (HK2.out.trans k5).drew⟩)
              clear k5 en2 er2
              go_wp2_with fail
              go_region_held3 (fun w' => w'.cell? ⟨rv, 0, none⟩ = some (ptr b) ∧ w'.cell? ⟨nv, 0, none⟩ = some (.int .i64 c.length) ∧ RcvAt w' b m g cap k (xs.length + c.length) r2 ∧ Keeps [] w w')
                (first | with_reducible assumption | with_reducible exact hS0.out)
                (first
                  | (go_at_call 52; refine (doneO (by first | with_reducible assumption | with_reducible exact hS0.out) true HQ1.out).mono ?_; rintro e w' ⟨rfl, hS⟩)
                  | (go_at_call 53; refine (dropsO (by first | with_reducible assumption | with_reducible exact hS0.out) 9 (by decide) (xs.length : Int) HQ3.out 9 rfl).mono ?_; rintro e w' ⟨rfl, rfl⟩)
                  | (go_at_call 57; refine (thereO (by first | with_reducible assumption | with_reducible exact hS0.out)).mono ?_; rintro e w' ⟨mm, rfl, hm, hS⟩)
                  | (go_at_call 17; refine (count_lit _ r2.l _ _ (by assumption) HQ2.out).mono ?_; rintro e w' ⟨rfl, rfl⟩))
              rename_i hlast
              have hk := hlast.2.2.2
              go_wp2_with fail
              go_ret
              exact ⟨rfl, hk⟩
end Go.Proofs.Ytffcambjdlkfbaa
