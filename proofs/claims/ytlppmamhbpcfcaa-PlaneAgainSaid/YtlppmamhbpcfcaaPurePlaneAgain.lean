/- The plain statement of the law PlaneAgain; no conditions beyond those typed. -/
import Derived.Test.YtlppmamhbpcfcaaPlaneLawAgain
namespace Go.Proofs.Ytlppmamhbpcfcaa.Pure
open Go.RowKit Go.Proofs.Ytlppmamhbpcfcaa.MPl Go.Proofs.YtlppmamhbpcfcaaW.PrintWords Go.Proofs.YtlppmamhbpcfcaaW.PrintLast

theorem PlaneAgain : thrumlaw05_PlaneAgain.Pure := by
  intro a0 a1 l2 w0 w1 _ _ hw
  exact ⟨_, PlaneEq.again a0 a1 l2 (fun x hx => Plain.wf_u8 (hw x hx))⟩

end Go.Proofs.Ytlppmamhbpcfcaa.Pure
