/- The walk of the law ReceiverResumes: true, in whatever memory, of any input. -/
import Derived.Test.YtffcambjdlkfbaaRecY
import Derived.Deep.CutBlock
namespace Go.Proofs.Ytffcambjdlkfbaa
open Go.RowKit

theorem six14 {w : World} {fb : Nat} {f : Frm} (h : FrmAt w fb f) :
    w.cell? ⟨fb, 0, none⟩ = some (.int .i64 f.fk) ∧ w.cell? ⟨fb, 1, none⟩ = some (.int .i64 f.ses) ∧ w.cell? ⟨fb, 2, none⟩ = some (.int .i64 f.epo) ∧ w.cell? ⟨fb, 3, none⟩ = some (.int .i64 f.idx) ∧ w.cell? ⟨fb, 4, none⟩ = some (.int .i64 f.tot) ∧ w.cell? ⟨fb, 5, none⟩ = some (.string f.s) :=
  ⟨h.f0, h.f1, h.f2, h.f3, h.f4, h.f5⟩

theorem total20 (tot : Int) : ∃ n : Nat, wrap64 (1 + wrap64 ((IntKind.u64.wrap tot).tmod 20)) = (n : Int) ∧ 1 ≤ n ∧ n ≤ 20 := by
  have h0 : 0 ≤ IntKind.u64.wrap tot := by rw [IntKind.wrap_u64]; omega
  have h1 : (IntKind.u64.wrap tot).tmod 20 = (IntKind.u64.wrap tot) % 20 := Int.tmod_eq_emod_of_nonneg h0
  rw [h1]
  generalize IntKind.u64.wrap tot = x at *
  have h2 : wrap64 (x % 20) = x % 20 := IntWalk.wrap64_in _ ⟨by omega, by omega⟩
  have h3 : wrap64 (1 + x % 20) = 1 + x % 20 := IntWalk.wrap64_in _ ⟨by omega, by omega⟩
  rw [h2, h3]
  exact ⟨(1 + x % 20).toNat, by omega, by omega, by omega⟩

theorem take_one (β : OBlk) (t : Nat) (r : Rcv) (f : Frm) (w : World) (h : OneAt w β t r) (ht : t ≤ 1000000) (E : Int) (R : Rcv) (hE : wrongE r f = E) (hR : r.take f = R) (b : Nat) (hb : β.b = b) :
    Calls Try.prog 50 #[ptr b, f.val] w fun e w' => e = .returned (.int .i64 E) ∧ OneAt w' β (t + 1) R ∧ Keeps [β.m, β.g, β.k] w w' := by
  subst hb; exact take50 β.b β.m β.g β.cap β.k t r f w h ht E R hE hR
theorem cursor_one (β : OBlk) (t : Nat) (r : Rcv) (w : World) (h : OneAt w β t r) (hg : r.Good) (Z : ByteArray) (hZ : mkB (cursorL r) = Z) (b : Nat) (hb : β.b = b) : Calls Try.prog 44 #[ptr b] w fun e w' => e = .returned (.string Z) ∧ Keeps [] w w' := by
  subst hb; subst hZ; exact cursor44 β.b β.m β.g β.cap β.k t r w h hg
theorem ack_one (β : OBlk) (t : Nat) (r : Rcv) (w : World) (h : OneAt w β t r) (b : Nat) (hb : β.b = b) : Calls Try.prog 45 #[ptr b] w fun e w' => e = .returned (ackV r) ∧ Keeps [] w w' := by
  subst hb; exact ack45 β.b β.m β.g β.cap β.k t r w h
theorem data_one (β : OBlk) (t : Nat) (r : Rcv) (w : World) (h : OneAt w β t r) (hg : r.Good) (S : ByteArray) (E : Int) (hS : dataS r = S) (hE : (if (baseL r.l == r.l.length) = true then 0 else 11) = E) (b : Nat) (hb : β.b = b) : Calls Try.prog 54 #[ptr b] w fun e w' => e = .returned (.tuple #[.string S, .int .i64 E]) ∧ Keeps [] w w' := by
  subst hb; exact data54 β.b β.m β.g β.cap β.k t r w h hg S E hS hE
theorem there_one (β : OBlk) (t : Nat) (r : Rcv) (w : World) (h : OneAt w β t r) (b : Nat) (hb : β.b = b) : Calls Try.prog 57 #[ptr b] w (CopyPost r.l w) := by
  subst hb; exact there57 β.b β.m β.g β.cap β.k t r w h

set_option maxRecDepth 100000 in
theorem resumes_great (tot : Int) (a : Option Addr) (len cap : Nat) (cuts : Int) (w : World) (h : 100 < len) : Calls Try.prog 7 #[.int .i64 tot, .slice a len cap, .int .u64 cuts] w (AwakePost w) := by
  have t1 : decide ((100 : Int) < (len : Int)) = true := decide_eq_true (by omega)
  go_enter Try.func7, Try.ntmps7
  go_wp2_with fail
  refine (awake14 _).mono ?_
  rintro e w1 ⟨rfl, k1⟩
  have k1 := Lib.hid k1
  go_wp2_with fail
  refine (awake14 _).mono ?_
  rintro e w2 ⟨rfl, k2⟩
  have k2 := Lib.hid k2
  go_wp2_with fail
  go_ret
  exact ⟨rfl, k1.out.trans k2.out⟩

set_option maxRecDepth 100000 in
set_option maxHeartbeats 16000000 in
theorem resumes_few (tot : Int) (a : Option Addr) (cap' : Nat) (fs : List Frm) (cuts : Int) (w : World) (hl : fs.length ≤ 100) (hlc : fs.length ≤ cap') (hcm : cap' ≤ 9223372036854775807) (hfs : IsFrms w a fs) :
    Calls Try.prog 7 #[.int .i64 tot, .slice a fs.length cap', .int .u64 cuts] w (AwakePost w) := by
  have HFs := Lib.hid hfs; clear hfs
  have t1 : decide ((100 : Int) < (fs.length : Int)) = false := decide_eq_false (by omega)
  go_enter Try.func7, Try.ntmps7
  go_wp2_with fail
  refine (awake14 _).mono ?_
  rintro e w1 ⟨rfl, k1⟩
  have k1 := Lib.hid k1
  go_wp2_with fail
  obtain ⟨n, hn, hn1, hn2⟩ := total20 tot
  rw [hn]
  clear hn
  refine (new_full 1 2 n _ rfl 1 2 n rfl rfl rfl _ hn1 (by omega) (by decide) (by decide)).mono ?_
  rintro e w2 ⟨b, m, g, cap, k, rfl, p2, n2, k2⟩
  have k2 := Lib.hid k2
  have p2 := Lib.hid p2
  have n2 := Lib.hid n2
  rename_i k20 p20 n20
  clear k20 p20 n20
  go_wp2_with fail
  refine (new_full 1 2 n _ rfl 1 2 n rfl rfl rfl _ hn1 (by omega) (by decide) (by decide)).mono ?_
  rintro e w3 ⟨yb, ym, yg, ycap, yk, rfl, q3, n3, k3⟩
  have HT := Lib.hid (show Two w ⟨b, m, g, cap, k⟩ ⟨yb, ym, yg, ycap, yk⟩ n 0 0 (newR 1 2 n) zeros20 w3 from by
    have z1 := k1.out.size
    have z2 := k2.out.size
    have hn := n2.out
    obtain ⟨l1, l2, l3, l4⟩ := p2.out.lt
    refine ⟨p2.out.quiet k3, q3, newR_good 1 2 n (by decide) (by decide) hn1 (by omega), by simp, Nat.le_refl _, by simp [newR], ?_, ?_, ?_, (k1.out.trans k2.out).trans k3⟩
    · intro x hx y hy
      simp only [OBlk.all, List.mem_cons, List.not_mem_nil, or_false] at hx hy
      omega
    · intro x hx
      simp only [OBlk.all, List.mem_cons, List.not_mem_nil, or_false] at hx
      omega
    · intro x hx
      simp only [OBlk.all, List.mem_cons, List.not_mem_nil, or_false] at hx
      omega)
  clear q3 n3 k3 p2 n2 k2 k1
  obtain ⟨β, hβ⟩ : ∃ β : OBlk, β = ⟨b, m, g, cap, k⟩ := ⟨_, rfl⟩
  obtain ⟨γ0, hγ0⟩ : ∃ γ : OBlk, γ = ⟨yb, ym, yg, ycap, yk⟩ := ⟨_, rfl⟩
  have HB := Lib.hid (show β.b = b from by rw [hβ])
  have HG0 := Lib.hid (show γ0.b = yb from by rw [hγ0])
  rw [← hβ, ← hγ0] at HT
  clear hβ hγ0
  generalize newR 1 2 n = r0 at *
  generalize zeros20 = z0 at HT
  go_wp2_with fail
  go_loopw [9, 50] (fun y v wr => ∃ i : Nat, i ≤ fs.length ∧ v = .int .i64 i ∧ ∃ (γ : OBlk) (u : Nat) (r : Rcv) (d : List Int), y = ptr γ.b ∧ Two w β γ n i u r d wr) (fun _ v _ => fs.length - (intOf v).toNat)
  case atStart => exact ⟨0, Nat.zero_le _, rfl, γ0, 0, r0, z0, by rw [HG0.out], HT.out⟩
  case round =>
    obtain ⟨i, hi, rfl, γ, u, r, d, rfl, hT⟩ := hrel
    have HT := Lib.hid hT; clear hT
    have hu := HT.out.ut
    by_cases hlt : i < fs.length
    · rcases HFs.out with hnil | ⟨g', o', rfl, hfs⟩
      · rw [hnil] at hlt; simp at hlt
      · have hc6 := hfs i fs[i] (List.getElem?_eq_getElem hlt)
        generalize fs[i] = f at *
        have e0 := HT.out.k.cell (by simp) (hc6 0 _ rfl)
        have e1 := HT.out.k.cell (by simp) (hc6 1 _ rfl)
        have e2 := HT.out.k.cell (by simp) (hc6 2 _ rfl)
        have e3 := HT.out.k.cell (by simp) (hc6 3 _ rfl)
        have e4 := HT.out.k.cell (by simp) (hc6 4 _ rfl)
        have e5 := HT.out.k.cell (by simp) (hc6 5 _ rfl)
        rw [Nat.add_zero] at e0
        clear hc6 hfs
        by_cases hsz : 500 < f.s.size
        · have t1 : decide ((500 : Int) < (f.s.size : Int)) = true := decide_eq_true (by omega)
          clear hsz
          go_wp2_with fail
          go_ret
          exact ⟨rfl, HT.out.k.alloc _⟩
        · have t1 : decide ((500 : Int) < (f.s.size : Int)) = false := decide_eq_false (by omega)
          clear hsz
          go_upto_region 13 with fail
          have ka := (Keeps.refl [] wr).alloc (frmRow f)
          have fa : FrmAt (wr.alloc (frmRow f)) wr.heap.size f := frm_new wr _ _ _ _ _ _ (Keeps.refl _ _)
          have hT2 := HT.out.keeps ka
          have HNb := Lib.hid (fun x hx => Nat.ne_of_lt (HT.out.p.lts x hx))
          have HNg := Lib.hid (fun x hx => Nat.ne_of_lt (HT.out.q.lts x hx))
          have HT2 := Lib.hid hT2
          have HFr := Lib.hid fa
          clear ka fa hT2 e0 e1 e2 e3 e4 e5 HT
          generalize wr.alloc (.cells #[.int .i64 f.fk, .int .i64 f.ses, .int .i64 f.epo, .int .i64 f.idx, .int .i64 f.tot, .string f.s] 54) = W at *
          generalize wr.heap.size = fb at *
          obtain ⟨E, hE⟩ : ∃ E, wrongE r f = E := ⟨_, rfl⟩
          obtain ⟨R, hR⟩ : ∃ R, r.take f = R := ⟨_, rfl⟩
          obtain ⟨D, hD⟩ : ∃ D, ((r.withD d).take f).d = D := ⟨_, rfl⟩
          have HE := Lib.hid hE
          have HR := Lib.hid hR
          have HD := Lib.hid hD
          have hF0 : FrmAt W.drew fb f := HFr.out.keeps (Keeps.refl [] W).drew (by simp)
          have HF0 := Lib.hid hF0
          have hS0 := Lib.hid (six14 hF0)
          clear hE hR hD hF0
          go_cut [65] (fun v wx => v = .bool false ∧ Two w β γ n (i + 1) (u + 1) R D wx)
          case first =>
            as_aux_lemma =>
              go_region_held3 (fun w' => w'.cell? ⟨fb, 0, none⟩ = some (.int .i64 f.fk) ∧ w'.cell? ⟨fb, 1, none⟩ = some (.int .i64 f.ses) ∧ w'.cell? ⟨fb, 2, none⟩ = some (.int .i64 f.epo) ∧ w'.cell? ⟨fb, 3, none⟩ = some (.int .i64 f.idx) ∧ w'.cell? ⟨fb, 4, none⟩ = some (.int .i64 f.tot) ∧ w'.cell? ⟨fb, 5, none⟩ = some (.string f.s))
                (first | with_reducible exact hSb.out | with_reducible exact hSa.out | with_reducible exact hS0.out)
                (first
                  | (go_at_call 50; have Y1o := Y1.out; refine (take_one γ u (r.withD d) f _ Y1o (by omega) E ((r.withD d).take f) HE.out rfl γ.b rfl).mono ?_; rintro e w2 ⟨rfl, q2, kk2⟩; have P2 := Lib.hid (show Two w β γ n (i + 1) (u + 1) R D w2 from (by have h := HT2.out.drew.took (by rw [HR.out]; exact P1.out) KK1.out q2 kk2; rw [HR.out, HD.out] at h; exact h)); have hSb := Lib.hid (six14 (FrmAt.keeps HFa.out kk2 (fun hx => HNg.out _ (foot_in hx) rfl))); clear q2 kk2 Y1o)
                  | (go_at_call 50; refine (take_one β i r f _ HT2.out.drew.p (by omega) E R HE.out HR.out b HB.out).mono ?_; rintro e w1 ⟨rfl, p1, kk1⟩; have y1 := HT2.out.drew.q1 kk1; have HFa := Lib.hid (FrmAt.keeps HF0.out kk1 (fun hx => HNb.out _ (foot_in hx) rfl)); have hSa := Lib.hid (six14 HFa.out); have P1 := Lib.hid p1; have Y1 := Lib.hid y1; have KK1 := Lib.hid kk1; clear p1 y1 kk1))
              go_wp2_with fail
              go_meet
              exact ⟨rfl, P2.out⟩
          case rest =>
            obtain ⟨rfl, hT3⟩ := hcut
            have HT3 := Lib.hid hT3
            clear hT3 hS0 HF0 HFr HT2 HNb HNg HE HR HD
            go_upto_if 71 with fail
            generalize (bits BinOp.and IntKind.u64 (cuts / 2 ^ (i % 64)) 1 == 1) = cut
            obtain ⟨Z, hZ⟩ : ∃ Z, mkB (cursorL R) = Z := ⟨_, rfl⟩
            have HZ := Lib.hid hZ
            clear hZ
            go_cut [9, 71] (fun y _ wx => ∃ (γ' : OBlk) (u' : Nat) (D' : List Int), y = ptr γ'.b ∧ Two w β γ' n (i + 1) u' R D' wx)
            case first =>
              as_aux_lemma =>
                cases cut with
                | true =>
                  go_wp2_with fail
                  refine (cursor_one γ _ _ _ HT3.out.q (withD_good HT3.out.good HT3.out.dlen) Z HZ.out γ.b rfl).mono ?_
                  rintro e w4 ⟨rfl, k4⟩
                  have T4 := Lib.hid (HT3.out.keeps k4)
                  clear k4
                  go_wp2_with fail
                  refine (resume_full (R.withD D) (R.withD zeros20) Z HZ.out (withD_good HT3.out.good HT3.out.dlen) rfl _).mono ?_
                  rintro e w5 ⟨zb, zm, zg, zcap, zk, rfl, q5, n5, k5⟩
                  have T5 := Lib.hid (T4.out.resumed (ζ := ⟨zb, zm, zg, zcap, zk⟩) q5 (by intro x hx; simp only [OBlk.all, List.mem_cons, List.not_mem_nil, or_false] at hx; omega) k5)
                  have Q5 := Lib.hid (T4.out.q.quiet k5)
                  clear q5 n5 k5
                  go_wp2_with fail
                  refine (cursor_one ⟨zb, zm, zg, zcap, zk⟩ _ _ _ T5.out.q (withD_good T5.out.good T5.out.dlen) Z HZ.out zb rfl).mono ?_
                  rintro e w6 ⟨rfl, k6⟩
                  have T6 := Lib.hid (T5.out.keeps k6)
                  have Q6 := Lib.hid (Q5.out.quiet k6)
                  clear k6
                  go_wp2_with fail
                  refine (cursor_one γ _ _ _ Q6.out (withD_good HT3.out.good HT3.out.dlen) Z HZ.out γ.b rfl).mono ?_
                  rintro e w7 ⟨rfl, k7⟩
                  have T7 := Lib.hid (T6.out.keeps k7)
                  clear k7
                  go_wp2_with fail
                  go_meet
                  exact ⟨⟨zb, zm, zg, zcap, zk⟩, 0, zeros20, rfl, T7.out⟩
                | false =>
                  go_wp2_with fail
                  go_meet
                  exact ⟨γ, u + 1, D, rfl, HT3.out⟩
            case rest =>
              obtain ⟨γ', u', D', rfl, hT5⟩ := hcut
              have T5 := Lib.hid hT5
              clear hT5 HT3
              obtain ⟨S2, hS2⟩ : ∃ S, dataS R = S := ⟨_, rfl⟩
              obtain ⟨E2, hE2⟩ : ∃ E : Int, (if (baseL R.l == R.l.length) = true then 0 else 11) = E := ⟨_, rfl⟩
              obtain ⟨C, hC⟩ : ∃ C : Int, (countL R.l : Int) = C := ⟨_, rfl⟩
              have HS2 := Lib.hid hS2
              have HE2 := Lib.hid hE2
              have HC := Lib.hid hC
              clear hS2 hE2 hC
              go_wp2_with fail
              refine (data_one β _ _ _ T5.out.p T5.out.good S2 E2 HS2.out HE2.out b HB.out).mono ?_
              rintro e w6 ⟨rfl, k6⟩
              have T6 := Lib.hid (T5.out.keeps k6)
              clear k6 T5
              go_wp2_with fail
              refine (data_one γ' _ _ _ T6.out.q (withD_good T6.out.good T6.out.dlen) S2 E2 HS2.out HE2.out γ'.b rfl).mono ?_
              rintro e w7 ⟨rfl, k7⟩
              have T7 := Lib.hid (T6.out.keeps k7)
              clear k7 T6
              go_wp2_with fail
              refine (ack_one β _ _ _ T7.out.p b HB.out).mono ?_
              unfold ackV
              rintro e w8 ⟨rfl, k8⟩
              have T8 := Lib.hid (T7.out.keeps k8)
              clear k8 T7
              go_wp2_with fail
              refine (ack_one γ' _ _ _ T8.out.q γ'.b rfl).mono ?_
              unfold ackV Rcv.withD
              dsimp only
              rintro e w9 ⟨rfl, k9⟩
              have T9 := Lib.hid (T8.out.keeps k9)
              clear k9 T8
              go_wp2_with fail
              refine (cursor_one β _ _ _ T9.out.p T9.out.good Z HZ.out b HB.out).mono ?_
              rintro e w10 ⟨rfl, k10⟩
              have T10 := Lib.hid (T9.out.keeps k10)
              clear k10 T9
              go_wp2_with fail
              refine (cursor_one γ' _ _ _ T10.out.q (withD_good T10.out.good T10.out.dlen) Z HZ.out γ'.b rfl).mono ?_
              rintro e w11 ⟨rfl, k11⟩
              have T11 := Lib.hid (T10.out.keeps k11)
              clear k11 T10
              go_wp2_with fail
              refine (there_one β _ _ _ T11.out.p b HB.out).mono ?_
              rintro e w12 ⟨rfl, m12, k12, _⟩
              have T12 := Lib.hid (T11.out.keeps k12)
              have M12 := Lib.hid m12
              clear k12 T11 m12
              go_wp2_with fail
              refine (count_lit _ R.l C _ M12.out HC.out).mono ?_
              rintro e w13 ⟨rfl, rfl⟩
              go_wp2_with fail
              refine (there_one γ' _ _ _ T12.out.q γ'.b rfl).mono ?_
              rintro e w14 ⟨rfl, m14, k14, _⟩
              have T14 := Lib.hid (T12.out.keeps k14)
              have M14 := Lib.hid m14
              clear k14 T12 m14 M12
              go_wp2_with fail
              refine (count_lit _ R.l C _ M14.out HC.out).mono ?_
              rintro e w15 ⟨rfl, rfl⟩
              go_wp2_with fail
              go_roundw
              case rel => exact ⟨i + 1, by omega, by go_num, γ', u', R, D', rfl, T14.out⟩
              case measure => simp [intOf]; omega
    · obtain rfl : i = fs.length := by omega
      go_wp2_with fail
      go_ret
      exact ⟨rfl, HT.out.k⟩
end Go.Proofs.Ytffcambjdlkfbaa
