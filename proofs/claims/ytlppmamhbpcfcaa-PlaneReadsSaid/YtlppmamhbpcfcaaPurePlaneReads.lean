/- The plain statement of the law PlaneReads; no conditions beyond those typed. -/
import Derived.Test.YtlppmamhbpcfcaaPlaneLawReads
namespace Go.Proofs.Ytlppmamhbpcfcaa.Pure
open Go.RowKit Go.Proofs.Ytlppmamhbpcfcaa.MPl Go.Proofs.YtlppmamhbpcfcaaW.PrintWords Go.Proofs.YtlppmamhbpcfcaaW.PrintLast

theorem PlaneReads : thrumlaw05_PlaneReads.Pure := by
  intro a0 a1 l2 a3 w0 w1 _ _ hw w3
  exact ⟨_, PlaneEq.reads a0 a1 l2 (fun x hx => Plain.wf_u8 (hw x hx)) a3 (Plain.wf_u64 w3).1 (Plain.wf_u64 w3).2⟩

end Go.Proofs.Ytlppmamhbpcfcaa.Pure
