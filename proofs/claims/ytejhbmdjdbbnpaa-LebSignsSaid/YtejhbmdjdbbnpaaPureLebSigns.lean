/- The plain side of LebSigns: signed numbers and others are one to one; no condition beyond the row's own. -/
import Derived.Test.YtejhbmdjdbbnpaaLebEqA
namespace Go.Proofs.Ytejhbmdjdbbnpaa.Pure
open Go.RowKit Go.Proofs.Ytejhbmdjdbbnpaa.MLeb Go.Proofs.Ytejhbmdjdbbnpaa.LebEq Go.Proofs.Ytejhbmdjdbbnpaa.DrawPlain Go.Proofs.Ytejhbmdjdbbnpaa.LebPlain Go.Proofs.YtejhbmdjdbbnpaaW.PrintWords
theorem LebSigns : thrumlaw03_LebSigns.Pure := by
  intro a0 a1 h0 h1
  have h0 := wf_i64 h0
  have h1 := wf_u64 h1
  refine ⟨60, ?_⟩
  obtain ⟨z0, z1⟩ := zigZ_range h0.1 h0.2
  obtain ⟨g0, g1⟩ := zagZ_range h1.1 h1.2
  simp only [thrumlaw03_LebSigns.f, live_eq 60 (by omega), bindS, if_true, zig_f h0.1 h0.2, zag_f z0 z1, zag_zig, zag_f h1.1 h1.2, zig_f g0 g1, zig_zag h1.1]
  simp only [thrumlaw03_LebSigns.j0]
  rw [if_neg (by simp)]
  by_cases c1 : a0 > 1152921504606846976
  · simp [c1, thrumlaw03_LebSigns.j1]
  · by_cases c2 : a0 < -1152921504606846976
    · simp [c1, c2, thrumlaw03_LebSigns.j1]
    · rw [if_neg c1, decide_eq_false c2]
      simp only [thrumlaw03_LebSigns.j1]
      rw [if_neg (by simp)]
      by_cases c3 : a0 ≥ 0
      · have hz : zigZ a0 = 2 * a0 := by
          unfold zigZ
          rw [if_pos (show 0 ≤ a0 by omega)]
        rw [if_pos c3, hz, wrap_same (i := 2 * a0) (by omega) (by omega), u64_same (by omega) (by omega)]
        simp
      · have hz : zigZ a0 = -2 * a0 - 1 := by
          unfold zigZ
          rw [if_neg (show ¬ 0 ≤ a0 by omega)]
        rw [if_neg c3, hz, wrap_same (i := -2 * a0) (by omega) (by omega), wrap_same (i := -2 * a0 - 1) (by omega) (by omega), u64_same (by omega) (by omega)]
        simp
end Go.Proofs.Ytejhbmdjdbbnpaa.Pure
