/- The law ReceiverResumes holds: of every total, list of frames and cuts the Go function returns true, and each argument reads afterwards as it read before. No condition. -/
import Derived.Test.YtffcambjdlkfbaaRecX
import Derived.Test.YtffcambjdlkfbaaRecZ
namespace Go.Proofs.Ytffcambjdlkfbaa
open Go.ChangeShapes Go.WideShapes Go.ChangeAt Go.RowKit Go.Deep

theorem resumes_any (tot : Int) (a : Option Addr) (len cap : Nat) (cuts : Int) (w : World) (hl : IsFrmList w a len) (hcap : len ≤ cap ∧ cap ≤ 9223372036854775807) : Calls Try.prog 7 #[.int .i64 tot, .slice a len cap, .int .u64 cuts] w (AwakePost w) := by
  by_cases h : 100 < len
  · exact resumes_great tot a len cap cuts w h
  · obtain ⟨fs, rfl, hfs⟩ := hl
    exact resumes_few tot a cap fs cuts w (by omega) hcap.1 hcap.2 hfs

set_option maxRecDepth 100000 in
theorem resumes_lifted (os : Os) (started : os.Started) (H : Type) (enc : TypeId × Value → H) :
    ReturnsInHanded {} Try.checked os 7 .any (Rows.receiverResumesSpec.pre6 enc Try.prog Try.f7 Rows.receiverResumesRow.domain false) (Rows.receiverResumesSpec.post enc Try.prog Try.f7 false true false false) := by
  refine returnsInHanded_of_change (C := Try.checked) Try.own started (by kernel_rfl) Try.func7
    (ChangeSpec.witness6 (enc := enc) (C := Try.checked) false ⟨#[], #[.int .i64 0, .slice none 0 0, .int .u64 0], []⟩ 8 (by kernel_rfl) (by kernel_rfl) (by kernel_rfl) (by kernel_rfl)) ?_
  intro W base args ds gs before hval0 hW _ _
  have hval : ∀ (j : Nat) t v, Try.f7.params[j]? = some t → args[j]? = some v → Value.okWide Try.prog W .any base t v := hval0
  have hW' := hW
  obtain ⟨p, q, hA0, hV, rfl, hfz, hnd⟩ := hW
  have hA : DataW.TrodAll enc Try.prog W 0 (fun _ => true) true Try.f7.params.toList args.toList ds p := hA0
  rw [Try.params7] at hA hval
  obtain ⟨v0, vs0, d0, ds0, p0, q0, hargs, rfl, rfl, h0, r0⟩ := trodAll_cons hA
  obtain ⟨v1, vs1, d1, ds1, p1, q1, rfl, rfl, rfl, h1, r1⟩ := trodAll_cons r0
  obtain ⟨v2, vs2, d2, ds2, p2, q2, rfl, rfl, rfl, h2, r2⟩ := trodAll_cons r1
  obtain ⟨rfl, rfl, rfl⟩ := trodAll_nil r2
  obtain rfl : args = #[v0, v1, v2] := by cases args; simp_all
  obtain ⟨rfl, rfl⟩ := trodVars_none hV
  obtain ⟨n0, rfl, rfl, rfl, w0⟩ := open_int Try.underlying3 (hval 0 3 v0 rfl rfl) h0
  obtain ⟨a1, len1, cap1, rfl⟩ := okWide_slice Try.underlying57 (hval 1 57 v1 rfl rfl)
  obtain ⟨n2, rfl, rfl, rfl, w2⟩ := open_int Try.underlying91 (hval 2 91 v2 rfl rfl) h2
  have k1 := h1
  have lt1 : ∀ x ∈ p1, x.block < W.heap.size := by obtain ⟨m, hm⟩ := k1; exact DataW.trod_lt m _ _ _ hm
  obtain ⟨hlist, hcap⟩ := isFrms_of h1
  clear hA0 hval0
  refine (resumes_any n0 a1 len1 cap1 n2 W hlist hcap).mono fun e W' ⟨he, kk⟩ => ?_
  have bel : Below W.heap.size W W' := kk.below (Nat.le_refl _) (by simp)
  subst he
  exact ⟨_, rfl, _, _, _, [], _, [], hW', trodAll_mk1 (shut_bool Try.underlying4 _), (trodAll_cons_mk (shut_int Try.underlying3 w0) (trodAll_cons_mk (Below.trod Try.laidOut (by kernel_rfl) (of_decide_eq_true (by kernel_rfl)) k1 bel lt1) (trodAll_cons_mk (shut_int Try.underlying91 w2) trodAll_mk0))), rfl, bel.frame _, fun h => by cases h⟩

theorem receiverResumes_holds : Rows.ReceiverResumesSaid :=
  OpenClaim.holds_of_wide 7 Try.f7 rfl rfl rfl rfl rfl rfl rfl ⟨rfl, rfl, rfl, rfl, rfl⟩ rfl rfl rfl rfl rfl (by kernel_rfl) Try.func7 (by kernel_rfl)
    (of_decide_eq_true (by kernel_rfl)) (by unfold Func.isWrapper; first | (rw [if_pos (by decide +kernel)]; kernel_rfl) | (rw [if_neg (by decide +kernel)]; exact ⟨rfl, rfl⟩))
    (fun os started H enc _ => resumes_lifted os started H enc)
#print axioms receiverResumes_holds
end Go.Proofs.Ytffcambjdlkfbaa
