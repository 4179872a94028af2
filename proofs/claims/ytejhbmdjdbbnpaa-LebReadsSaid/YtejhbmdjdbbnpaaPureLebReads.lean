/- The plain side of LebReads: the program reads whatever bytes as the reference does; no condition beyond the row's own sizes. -/
import Derived.Test.YtejhbmdjdbbnpaaLebEqC
namespace Go.Proofs.Ytejhbmdjdbbnpaa.Pure
open Go.RowKit Go.Proofs.Ytejhbmdjdbbnpaa.MLeb Go.Proofs.Ytejhbmdjdbbnpaa.LebEq Go.Proofs.Ytejhbmdjdbbnpaa.DrawPlain Go.Proofs.Ytejhbmdjdbbnpaa.LebPlain Go.Proofs.YtejhbmdjdbbnpaaW.PrintWords
theorem LebReads : thrumlaw03_LebReads.Pure := by
  intro l pos many _ _ hl hp hm
  obtain ⟨hp0, hp1⟩ := wf_i64 hp
  obtain ⟨hm0, hm1⟩ := wf_i64 hm
  have hb : Bytes l := fun x hx => wf_u8 (hl x hx)
  refine ⟨200000, ?_⟩
  simp only [thrumlaw03_LebReads.f, live_eq 200000 (by omega), bindS, if_true, few_f]
  by_cases h : (l.length : Int) ≤ 2000 ∧ many ≤ 500
  · rw [if_pos (by simpa using h)]
    rw [get_f 200000 l pos hb (by omega) hp1 (by omega), rget_f 200000 l pos hb (by omega) hp1 (by omega), take_f 200000 l pos hb (by omega) hp1 (by omega), rtake_f 200000 l pos hb (by omega) hp1 (by omega), many_f 200000 l pos many hb (by omega) hp1 (by omega) (by omega), rmany_f 200000 l pos many hb (by omega) hp1 (by omega) (by omega)]
    simp only [bindS, if_true]
    have hlen : (if many < 0 then (([] : List Int), (0 : Int), (1 : Int)) else manyS l many.toNat pos []).1.length ≤ 500 := by
      split
      · simp
      · have := manyS_len l many.toNat pos []
        simp only [List.length_nil] at this
        omega
    rw [numbers_f 200000 _ _ (by simp only [maxLen]; omega) (by omega)]
    simp
  · rw [if_neg (by simpa using h)]
end Go.Proofs.Ytejhbmdjdbbnpaa.Pure
