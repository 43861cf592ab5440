/- The walk of the law SackPlays: true, in whatever memory, of every number and every list of calls; nothing that was there is turned. -/
import Derived.Test.YtffcambjdlkfbaaSackQ
import Derived.Deep.DeepCutAuto
import Derived.Deep.CutBlock
namespace Go.Proofs.Ytffcambjdlkfbaa
open Go.RowKit

structure Op12 where
  kind : Int
  n : Int
  m : Int
  s : ByteArray

/-- The slice v reads as these calls, four cells each. -/
structure OpsAt (w : World) (g o : Nat) (ops : List Op12) : Prop where
  kind : ∀ i x, ops[i]? = some x → w.cell? ⟨g, o + i * 4, none⟩ = some (.int .i64 x.kind)
  n : ∀ i x, ops[i]? = some x → w.cell? ⟨g, o + i * 4 + 1, none⟩ = some (.int .i64 x.n)
  m : ∀ i x, ops[i]? = some x → w.cell? ⟨g, o + i * 4 + 1 + 1, none⟩ = some (.int .i64 x.m)
  s : ∀ i x, ops[i]? = some x → w.cell? ⟨g, o + i * 4 + 1 + 1 + 1, none⟩ = some (.string x.s)

theorem make_bools (u : World) (n : Nat) (hn : n ≤ 1000000) : (Instr.makeSlice 28 (.int .i64 n) (.int .i64 n)).run Try.prog u =
    .ok (.slice (some ⟨u.heap.size, 0, none⟩) n n) (u.alloc (.cells ((List.replicate n false).map Value.bool).toArray 4)) := by
  obtain ⟨i0, hi, hz0, hz1, hz2⟩ := info_parts Try.info4
  have h := run_make (P := Try.prog) u 28 4 i0 (.bool false) Try.underlying28 hi hz0 .i64 .i64 (n : Int) (n : Int) (by omega) (Int.le_refl _) (by rw [hz2]; omega) (by omega)
  have e : madeCells (Value.bool false).cells n = ((List.replicate n false).map Value.bool).toArray := by
    rw [← Array.toList_inj, show (Value.bool false).cells = #[.bool false] from rfl, toList_madeCells_one]
    simp
  rw [Int.toNat_natCast, hz1, Nat.mul_one, e] at h
  exact h

theorem BoolsAt.made (u : World) (n : Nat) (hn : n ≤ 1000000) : BoolsAt (u.alloc (.cells ((List.replicate n false).map Value.bool).toArray 4)) u.heap.size n (List.replicate n false) := by
  have h := World.ownsRow_lit (base := 0) (e := 4) (size := 1) u ((List.replicate n false).map Value.bool).toArray n (Nat.zero_le _) (by unfold maxLen; omega) (by simp)
  unfold BoolsAt
  simpa using h

section
variable (g cap n : Nat) (l : List Bool) (w : World) (hb : BoolsAt w g cap l) (hn : l.length = n)
include hb hn
theorem rbase_lit : Calls Try.prog 16 #[.slice (some ⟨g, 0, none⟩) n cap] w fun e w' => e = .returned (.int .i64 (baseL l)) ∧ w = w' := by subst hn; exact rbase_any g cap l w hb
theorem rcount_lit (r : Int) (h : (countL l : Int) = r) : Calls Try.prog 18 #[.slice (some ⟨g, 0, none⟩) n cap] w fun e w' => e = .returned (.int .i64 r) ∧ w = w' := by subst hn; subst h; exact rcount_any g cap l w hb
theorem rbehind_lit (k : Int) (hle : n ≤ 1000) : Calls Try.prog 21 #[.slice (some ⟨g, 0, none⟩) n cap, .int .i64 k] w (BehindPost l k w) := by subst hn; exact rbehind_any g cap l k w hb hle
theorem rmissing_lit (a t : Int) (hle : n ≤ 1000) : Calls Try.prog 24 #[.slice (some ⟨g, 0, none⟩) n cap, .int .i64 a, .int .i64 t] w (IntsPost (missL l a t) w) := by subst hn; exact rmissing_any g cap l a t w hb hle
def RMergeLit (n : Nat) (l : List Bool) (base : Int) (s : ByteArray) (w : World) (e : Ending) (w' : World) : Prop :=
  ∃ g cap, e = .returned (.tuple #[.slice (some ⟨g, 0, none⟩) n cap, .int .i64 (newOnes l (toldAt base s) n)]) ∧ BoolsAt w' g cap (laid l (toldAt base s) n) ∧ w.heap.size ≤ g ∧ Keeps [] w w'
theorem rmerge_lit (base : Int) (s : ByteArray) (h1 : 1 ≤ n) (hle : n ≤ 1000) (hs : s.size ≤ 1000) : Calls Try.prog 12 #[.slice (some ⟨g, 0, none⟩) n cap, .int .i64 base, .string s] w (RMergeLit n l base s w) := by
  subst hn
  refine (rmerge_any g cap l base s w hb h1 hle hs).mono ?_
  rintro e w' ⟨g', cap', rfl, h2, h3, h4⟩
  exact ⟨g', cap', by unfold bslice; rw [laid_length], h2, h3, h4⟩
end
theorem merge_lit2 (b n : Nat) (l : List Bool) (base : Int) (s : ByteArray) (w : World) (hm : MapAt w b l) (hn : l.length = n) (hs : s.size ≤ 1000) :
    Calls Try.prog 13 #[ptr b, .int .i64 base, .string s] w fun e w' => e = .returned (.int .i64 (newOnes l (toldAt base s) n)) ∧ MapAt w' b (laid l (toldAt base s) n) ∧ Keeps [b] w w' := by
  subst hn
  exact merge_any b l base s w hm hs

set_option maxHeartbeats 8000000 in
set_option maxRecDepth 100000 in
theorem sackPlays_walk (n : Nat) (h1 : 1 ≤ n) (h2 : n ≤ 256) (g o cap : Nat) (ops : List Op12) (hl : ops.length ≤ 200) (_hlc : ops.length ≤ cap) (_hcm : cap ≤ 9223372036854775807) (w : World) (hops : OpsAt w g o ops) :
    Calls Try.prog 3 #[.int .i64 n, .slice (some ⟨g, o, none⟩) ops.length cap] w (AwakePost w) := by
  have HOps := Lib.hid hops; clear hops
  go_enter Try.func3, Try.ntmps3
  go_wp2_with fail
  refine (awake12 _).mono ?_
  rintro e w1 ⟨rfl, k1⟩
  have k1 := Lib.hid k1
  go_wp2_with fail
  refine (new_lit n n _ rfl h1 h2).mono ?_
  rintro e w2 ⟨rfl, m2, k2, s2⟩
  generalize hb : w1.heap.size = b at *
  have HB := Lib.hid hb; clear hb
  have k2 := Lib.hid k2
  have m2 := Lib.hid m2
  have hmk := fun u : World => make_bools u n (by omega)
  go_wp2_with fail
  have b2 := Lib.hid (BoolsAt.made w2 n (by omega))
  have hne2 : b ≠ w2.heap.size := Nat.ne_of_lt m2.out.lt
  have hne2 := Lib.hid hne2
  rename_i hne2'
  clear hne2' hmk
  have kw2 : Keeps [] w w2 := k1.out.trans k2.out
  have kw2 := Lib.hid kw2
  rename_i kw2'
  clear kw2'
  have HBw := Lib.hid (show w.heap.size ≤ b from by rw [← HB.out]; exact k1.out.size)
  have hbl : b < w2.heap.size := m2.out.lt
  have hbl := Lib.hid hbl
  rename_i hbl'
  clear hbl'
  go_loopw [7, 43] (fun v c wr => ∃ k : Nat, k ≤ ops.length ∧ c = .int .i64 k ∧ ∃ (l : List Bool) (gw cw : Nat), v = .slice (some ⟨gw, 0, none⟩) n cw ∧ l.length = n ∧ BoolsAt wr gw cw l ∧ MapAt wr b l ∧ Keeps [] w wr ∧ w.heap.size ≤ gw ∧ b ≠ gw)
    (fun _ c _ => ops.length - (intOf c).toNat)
  case atStart =>
    have e : (List.replicate n false).map Value.bool = List.replicate n (Value.bool false) := by simp
    have b3 := b2.out
    have k3 := (Keeps.refl [] w2).alloc (.cells ((List.replicate n false).map Value.bool).toArray 4)
    have m3 := m2.out.keeps k3 (by simp)
    have k4 := kw2.out.trans k3
    rw [e, List.toArray_replicate] at b3 m3 k4
    exact ⟨0, Nat.zero_le _, rfl, List.replicate n false, w2.heap.size, n, rfl, by simp, b3, m3, k4, kw2.out.size, hne2.out⟩
  case round =>
    obtain ⟨k, hk, rfl, l, gw, cw, rfl, hln, hbs, hm, hkp, hgw, hne⟩ := hrel
    by_cases hlt : k < ops.length
    · obtain ⟨x, hx⟩ : ∃ x, ops[k]? = some x := ⟨_, List.getElem?_eq_getElem hlt⟩
      have c0 := hkp.cell (by simp) (HOps.out.kind k x hx)
      have c1 := hkp.cell (by simp) (HOps.out.n k x hx)
      have c2 := hkp.cell (by simp) (HOps.out.m k x hx)
      have c3 := hkp.cell (by simp) (HOps.out.s k x hx)
      have hx := Lib.hid hx
      have hbs := Lib.hid hbs
      have hm := Lib.hid hm
      have hkp := Lib.hid hkp
      have hln := Lib.hid hln
      have hgw := Lib.hid hgw
      have hne := Lib.hid hne
      rename_i hx1 hbs1 hm1 hkp1 hln1 hgw1 hne1
      clear hx1 hbs1 hm1 hkp1 hln1 hgw1 hne1
      go_upto_region 10 with fail
      have ka := (Keeps.refl [] wr).alloc (.cells #[.int .i64 x.kind, .int .i64 x.n, .int .i64 x.m, .string x.s] 30)
      have ra := RowAt.new wr 30 [.int .i64 x.kind, .int .i64 x.n, .int .i64 x.m, .string x.s]
      have d0 := ra.cell 0
      have d1 := ra.cell 1
      have d2 := ra.cell 2
      have d3 := ra.cell 3
      simp only [List.getElem?_cons_zero, List.getElem?_cons_succ] at d0 d1 d2 d3
      have hbs2 := Lib.hid (hbs.out.keeps ka (by simp))
      have hm2 := Lib.hid (hm.out.keeps ka (by simp))
      have hkp2 := Lib.hid (hkp.out.trans ka)
      have hbo := Lib.hid (show b ≠ wr.heap.size ∧ gw ≠ wr.heap.size from ⟨Nat.ne_of_lt hm.out.lt, Nat.ne_of_lt hbs.out.lt⟩)
      have hbz := Lib.hid (show w.heap.size ≤ wr.heap.size from hkp.out.size)
      have RA := Lib.hid ra
      clear ka ra c0 c1 c2 c3 hkp hm hbs
      generalize wr.alloc (.cells #[.int .i64 x.kind, .int .i64 x.n, .int .i64 x.m, .string x.s] 30) = W at *
      generalize wr.heap.size = bo at *
      by_cases hsz : x.s.size ≤ 100
      · go_upto_block 2 with fail
        go_cut [7, 52] (fun v _ wc => ∃ (l' : List Bool) (gw cw : Nat), v = .slice (some ⟨gw, 0, none⟩) n cw ∧ l'.length = n ∧ BoolsAt wc gw cw l' ∧ MapAt wc b l' ∧ Keeps [] w wc ∧ w.heap.size ≤ gw ∧ b ≠ gw ∧ wc.cell? ⟨bo, 1, none⟩ = some (.int .i64 x.n) ∧ wc.cell? ⟨bo, 2, none⟩ = some (.int .i64 x.m))
        case first =>
          as_aux_lemma =>
            have hln2 := hln.out
            by_cases t1 : x.kind = 1
            · have t1 : (x.kind == 1) = true := by simpa using t1
              rcases Int.lt_or_le x.n 0 with hn | hn
              · have hq : setOk l x.n = false := by unfold setOk; simp; omega
                have hsl : setL l x.n = l := by unfold setL; rw [hq]; rfl
                have HQ := Lib.hid hq; clear hq
                have HSL := Lib.hid hsl; clear hsl
                go_wp2_with (go_at_call 11; refine (set_lit b l l x.n false _ hm2.out HQ.out HSL.out).mono ?_; rintro e w' ⟨rfl, hm3, hk3⟩; have hm3 := Lib.hid hm3; have e1 := hk3.cell (by simpa using Ne.symm hbo.out.1) d1; have e2 := hk3.cell (by simpa using Ne.symm hbo.out.1) d2; have hk3 := Lib.hid hk3)
                go_meet
                exact ⟨l, gw, cw, rfl, hln.out, hbs2.out.keeps hk3.out (by simpa using Ne.symm hne.out), hm3.out, hkp2.out.then hk3.out (by intro i hi; simp at hi; subst hi; exact Or.inr HBw.out), hgw.out, hne.out, e1, e2⟩
              · rcases Int.lt_or_le x.n n with hn2 | hn2
                · have hbc := hbs2.out.cell x.n.toNat (by omega)
                  have hbf := hbs2.out.free x.n.toNat
                  cases hb : at' l x.n.toNat with
                  | true =>
                    rw [hb] at hbc
                    have hq : setOk l x.n = false := by unfold setOk; simp [hb]
                    have hsl : setL l x.n = l := by unfold setL; rw [hq]; rfl
                    have HQ := Lib.hid hq; clear hq
                    have HSL := Lib.hid hsl; clear hsl
                    have hb := Lib.hid hb
                    rename_i hb0
                    clear hb0
                    go_wp2_with (go_at_call 11; refine (set_lit b l l x.n false _ hm2.out HQ.out HSL.out).mono ?_; rintro e w' ⟨rfl, hm3, hk3⟩; have hm3 := Lib.hid hm3; have e1 := hk3.cell (by simpa using Ne.symm hbo.out.1) d1; have e2 := hk3.cell (by simpa using Ne.symm hbo.out.1) d2; have hk3 := Lib.hid hk3)
                    go_meet
                    exact ⟨l, gw, cw, rfl, hln.out, hbs2.out.keeps hk3.out (by simpa using Ne.symm hne.out), hm3.out, hkp2.out.then hk3.out (by intro i hi; simp at hi; subst hi; exact Or.inr HBw.out), hgw.out, hne.out, e1, e2⟩
                  | false =>
                    rw [hb] at hbc
                    have hq : setOk l x.n = true := by unfold setOk; simp [hb]; omega
                    have hsl : setL l x.n = l.set x.n.toNat true := by unfold setL; rw [hq]; rfl
                    have HQ := Lib.hid hq; clear hq
                    have HSL := Lib.hid hsl; clear hsl
                    have hb := Lib.hid hb
                    rename_i hb0
                    clear hb0
                    go_wp2_with (go_at_call 11; refine (set_lit b l _ x.n true _ hm2.out HQ.out HSL.out).mono ?_; rintro e w' ⟨rfl, hm3, hk3⟩; have hm3 := Lib.hid hm3; have e1 := hk3.cell (by simpa using Ne.symm hbo.out.1) d1; have e2 := hk3.cell (by simpa using Ne.symm hbo.out.1) d2; have hbs3 := Lib.hid (hbs2.out.keeps hk3 (by simpa using Ne.symm hne.out)); have hbf3 := hbs3.out.free x.n.toNat; have hbc3 := hk3.cell (by simpa using Ne.symm hne.out) hbc; have hk3 := Lib.hid hk3)
                    have KS := (Keeps.refl [gw] w').setCell (p := ⟨gw, x.n.toNat, none⟩) (Or.inl (List.mem_singleton.2 rfl)) (.bool true)
                    have hbog := hbo.out.2
                    go_meet
                    exact ⟨l.set x.n.toNat true, gw, cw, rfl, by simp [hln.out], hbs3.out.set _ true, hm3.out.keeps KS (by simpa using hne.out),
                      (hkp2.out.then hk3.out (by intro i hi; simp at hi; subst hi; exact Or.inr HBw.out)).then KS (by intro i hi; simp at hi; subst hi; exact Or.inr hgw.out), hgw.out, hne.out, KS.cell (by simpa using Ne.symm hbog) e1, KS.cell (by simpa using Ne.symm hbog) e2⟩
                · have hq : setOk l x.n = false := by unfold setOk; simp; omega
                  have hsl : setL l x.n = l := by unfold setL; rw [hq]; rfl
                  have HQ := Lib.hid hq; clear hq
                  have HSL := Lib.hid hsl; clear hsl
                  go_wp2_with (go_at_call 11; refine (set_lit b l l x.n false _ hm2.out HQ.out HSL.out).mono ?_; rintro e w' ⟨rfl, hm3, hk3⟩; have hm3 := Lib.hid hm3; have e1 := hk3.cell (by simpa using Ne.symm hbo.out.1) d1; have e2 := hk3.cell (by simpa using Ne.symm hbo.out.1) d2; have hk3 := Lib.hid hk3)
                  go_meet
                  exact ⟨l, gw, cw, rfl, hln.out, hbs2.out.keeps hk3.out (by simpa using Ne.symm hne.out), hm3.out, hkp2.out.then hk3.out (by intro i hi; simp at hi; subst hi; exact Or.inr HBw.out), hgw.out, hne.out, e1, e2⟩
            · have t1 : (x.kind == 1) = false := by simpa using t1
              by_cases t2 : x.kind = 2
              · have t2 : (x.kind == 2) = true := by simpa using t2
                go_wp2_with (first | (go_at_call 12; refine (rmerge_lit gw cw n l _ hbs2.out hln.out _ _ h1 (by omega) (by omega)).mono ?_; rintro e w' ⟨g3, c3, rfl, hb3, hg3, hk3⟩; have hm3 := Lib.hid (hm2.out.keeps hk3 (by simp)); have e1 := hk3.cell (by simp) d1; have e2 := hk3.cell (by simp) d2; have e3 := hk3.cell (by simp) d3; have hb3 := Lib.hid hb3; have hg3 := Lib.hid hg3; have hk3 := Lib.hid hk3) | (go_at_call 13; refine (merge_lit2 b n l _ _ _ hm3.out hln.out (by omega)).mono ?_; rintro e w'' ⟨rfl, hm4, hk4⟩; have hm4 := Lib.hid hm4; have f1 := hk4.cell (by simpa using Ne.symm hbo.out.1) e1; have f2 := hk4.cell (by simpa using Ne.symm hbo.out.1) e2; have hk4 := Lib.hid hk4))
                have hbW := hm2.out.lt
                have hb3' : b ≠ g3 := Nat.ne_of_lt (Nat.lt_of_lt_of_le hbW hg3.out)
                go_meet
                exact ⟨laid l (toldAt x.n x.s) n, g3, c3, rfl, by rw [laid_length]; exact hln.out, hb3.out.keeps hk4.out (by simpa using Ne.symm hb3'), hm4.out,
                  (hkp2.out.trans hk3.out).then hk4.out (by intro i hi; simp at hi; subst hi; exact Or.inr HBw.out), Nat.le_trans hkp2.out.size hg3.out, hb3', f1, f2⟩
              · have t2 : (x.kind == 2) = false := by simpa using t2
                go_wp2_with fail
                go_meet
                exact ⟨l, gw, cw, rfl, hln.out, hbs2.out, hm2.out, hkp2.out, hgw.out, hne.out, d1, d2⟩
        case rest =>
          clear hbs2 hm2 hkp2 hln d0 d1 d2 d3 RA hgw hne
          rename_i gwO
          obtain ⟨l', gw', cw', rfl, hln, hbs, hm, hkp, hgw, hne, e1, e2⟩ := hcut
          have hbs := Lib.hid hbs
          have hm := Lib.hid hm
          have hkp := Lib.hid hkp
          have hgw := Lib.hid hgw
          have hne := Lib.hid hne
          have hln := Lib.hid hln
          rename_i hln0 hbs0 hm0 hkp0 hgw0 hne0
          clear hln0 hbs0 hm0 hkp0 hgw0 hne0
          go_upto_region 24 with fail
          go_cut [13] (fun v wx => wx = wc ∧ v = .bool (hasL l' x.n))
          case first =>
            as_aux_lemma =>
              rcases Int.lt_or_le x.n 0 with hn | hn
              · have hq := Lib.hid (hasL_neg (l := l') hn)
                go_wp2_with fail
                go_meet
                exact ⟨rfl, by rw [hq.out]⟩
              · rcases Int.lt_or_le x.n n with hn2 | hn2
                · have hbc := hbs.out.cell x.n.toNat (by have := hln.out; omega)
                  have hq := Lib.hid (show hasL l' x.n = at' l' x.n.toNat from by unfold hasL; simp; omega)
                  generalize at' l' x.n.toNat = q at *
                  go_wp2_with fail
                  go_meet
                  exact ⟨rfl, by rw [hq.out]⟩
                · have hq := Lib.hid (hasL_high (l := l') (i := x.n) (by have := hln.out; omega))
                  go_wp2_with fail
                  go_meet
                  exact ⟨rfl, by rw [hq.out]⟩
          case rest =>
            obtain ⟨rfl, rfl⟩ := hcut
            go_upto_region 25 with fail
            have hBoth := Lib.hid (show Both w b gw' cw' n l' wc from ⟨hln.out, h2, hbs.out, hm.out, hkp.out⟩)
            have hfc := full_count (l := l')
            rw [hln.out] at hfc
            obtain ⟨C, hC⟩ : ∃ C : Int, (countL l' : Int) = C := ⟨_, rfl⟩
            rw [hC] at hfc
            obtain ⟨q, hq⟩ : ∃ q : Bool, decide (C = (n : Int)) = q := ⟨_, rfl⟩
            rw [hq] at hfc
            rw [← hln.out] at hfc
            have hCq : (C == (n : Int)) = q := by rw [← hq, Bool.eq_iff_iff]; simp
            have HC := Lib.hid hC; clear hC hq
            have HF := Lib.hid hfc; clear hfc
            go_cut [180] (fun v wx => v = .bool false ∧ Both w b gw' cw' n l' wx)
            case first =>
              as_aux_lemma =>
                go_region_held3 (fun w' => w'.cell? ⟨bo, 1, none⟩ = some (.int .i64 x.n) ∧ w'.cell? ⟨bo, 2, none⟩ = some (.int .i64 x.m) ∧ Both w b gw' cw' n l' w')
                  (first | assumption | exact ⟨e1, e2, hBoth.out.drew⟩)
                  (first
                    | (go_at_call 14; refine (has25 (by assumption) _).mono ?_; rintro e w' ⟨rfl, rfl⟩)
                    | (go_at_call 15; refine (base25 (by assumption)).mono ?_; rintro e w' ⟨rfl, rfl⟩)
                    | (go_at_call 16; refine (rbase25 (by assumption)).mono ?_; rintro e w' ⟨rfl, rfl⟩)
                    | (go_at_call 17; refine (count25 (by assumption) C HC.out).mono ?_; rintro e w' ⟨rfl, rfl⟩)
                    | (go_at_call 18; refine (rcount25 (by assumption) C HC.out).mono ?_; rintro e w' ⟨rfl, rfl⟩)
                    | (go_at_call 19; refine (full25 (by assumption) q HF.out).mono ?_; rintro e w' ⟨rfl, hS⟩)
                    | (go_at_call 20; refine (behind25 (by assumption) _).mono ?_; rintro e w' ⟨rfl, hS⟩)
                    | (go_at_call 21; refine (rbehind25 (by assumption) _).mono ?_; rintro e w' ⟨rfl, hS⟩)
                    | (go_at_call 23; refine (missing25 (by assumption) _ _).mono ?_; rintro e w' ⟨v, rfl, hv, hS⟩)
                    | (go_at_call 24; refine (rmissing25 (by assumption) _ _ _ _ (by assumption)).mono ?_; rintro e w' ⟨u, rfl, hu, hv, hS⟩)
                    | (go_at_call 22; refine (same25 (by assumption) _ _ _ (by assumption) (by assumption)).mono ?_; rintro e w' ⟨rfl, hS⟩)
                    | (go_at_call 25; refine (len25 (by assumption)).mono ?_; rintro e w' ⟨rfl, rfl⟩))
                go_wp2_with fail
                go_meet
                rename_i hlast
                exact ⟨rfl, hlast.2.2⟩
            case rest =>
              obtain ⟨rfl, hB⟩ := hcut
              have hB := Lib.hid hB
              rename_i hB0
              clear hB0
              go_wp2_with fail
              obtain ⟨q1, _, q3, q4, q5⟩ := hB.out
              go_roundw
              case rel => exact ⟨k + 1, by omega, by go_num, l', gw', cw', rfl, q1, q3, q4, q5, hgw.out, hne.out⟩
              case measure => simp [intOf]; omega
      · go_wp2_with fail
        go_ret
        exact ⟨rfl, hkp2.out⟩
    · obtain rfl : k = ops.length := by omega
      have hkp := Lib.hid hkp
      go_wp2_with fail
      go_ret
      exact ⟨rfl, hkp.out⟩
end Go.Proofs.Ytffcambjdlkfbaa
