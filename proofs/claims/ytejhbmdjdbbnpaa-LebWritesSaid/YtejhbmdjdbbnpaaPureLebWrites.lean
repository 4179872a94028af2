/- The plain side of LebWrites: the program writes as the reference does, and leaves what it was given; no condition beyond the row's own sizes. -/
import Derived.Test.YtejhbmdjdbbnpaaMLebx7
import Derived.Test.YtejhbmdjdbbnpaaLebEqD
namespace Go.Proofs.Ytejhbmdjdbbnpaa.Pure
open Go.RowKit Go.Proofs.Ytejhbmdjdbbnpaa.MLeb Go.Proofs.Ytejhbmdjdbbnpaa.LebEq Go.Proofs.Ytejhbmdjdbbnpaa.DrawPlain Go.Proofs.Ytejhbmdjdbbnpaa.LebPlain Go.Proofs.YtejhbmdjdbbnpaaW.PrintWords
theorem writes_loop (x0 : List Int) (hb : Bytes x0) (n : Nat) (hn : n ≤ 1000000) (d : Nat) : ∀ (k i : Nat) (m : List Int), m.length = n → i + d = n → d < k →
    thrumlaw03_LebWrites.l0 k x0 true x0 m true (n : Int) (i : Int) = some true := by
  induction d with
  | zero =>
    intro k i m hm hi hk
    obtain ⟨k, rfl⟩ : ∃ m, k = m + 1 := ⟨k - 1, by omega⟩
    simp only [thrumlaw03_LebWrites.l0]
    rw [if_neg (by omega), if_pos trivial, if_pos trivial, same_f x0 x0 hb hb, bindS, decide_eq_true rfl]
  | succ d ih =>
    intro k i m hm hi hk
    obtain ⟨k, rfl⟩ : ∃ m, k = m + 1 := ⟨k - 1, by omega⟩
    simp only [thrumlaw03_LebWrites.l0]
    rw [if_pos (by omega), if_pos (by omega), if_pos (by omega), wrap_same (by omega) (by omega), show ((i : Int) + 1) = ((i + 1 : Nat) : Int) by omega]
    exact ih k (i + 1) _ (by rw [List.length_set]; exact hm) (by omega) (by omega)
theorem LebWrites : thrumlaw03_LebWrites.Pure := by
  intro l0 l1 l2 a3 a4 _ _ hl0 _ _ hl1 _ _ hl2 h3 h4
  obtain ⟨h30, h31⟩ := wf_u64 h3
  obtain ⟨h40, h41⟩ := wf_i64 h4
  have hb : Bytes l0 := fun x hx => wf_u8 (hl0 x hx)
  have hw : Words l1 := fun x hx => wf_u64 (hl1 x hx)
  have hs : Ints l2 := fun x hx => wf_i64 (hl2 x hx)
  refine ⟨200002, ?_⟩
  simp only [thrumlaw03_LebWrites.f, live_eq 200002 (by omega), bindS, if_true, few_f]
  by_cases h : (l0.length : Int) ≤ 2000 ∧ (l1.length : Int) ≤ 500
  · rw [if_pos (by simpa using h)]
    by_cases h2 : (l2.length : Int) > 500
    · simp only [thrumlaw03_LebWrites.j0, decide_eq_true h2, if_true]
    · simp only [thrumlaw03_LebWrites.j0, decide_eq_false h2]
      rw [if_neg (by simp), if_pos (by simp only [List.length_nil]; omega), bindS]
      rw [Put_f 200001 l0 l1 hw (by omega) (by omega) (by omega), bindS, Signed_f 200001 l0 l2 hs (by omega) (by omega) (by omega), bindS, rPut_f 200001 l0 l1 hw (by omega) (by omega) (by omega), bindS]
      rw [same_f _ _ (hb.append (codesI_bytes _)) (hb.append (codesI_bytes _)), bindS, if_pos (decide_eq_true rfl)]
      rw [rSigned_f 200001 l0 l2 hs (by omega) (by omega) (by omega), bindS, same_f _ _ (hb.append (codesI_bytes _)) (hb.append (codesI_bytes _)), bindS, if_pos (decide_eq_true rfl)]
      rw [size_f 200001 (by omega) a3 h30 h31, bindS, rSize_f 200001 a3 h30 h31 (by omega), bindS, if_pos rfl, zig_f h40 h41, bindS, rzig_f h40 h41, bindS, if_pos rfl, zag_f h30 h31, bindS, rzag_f h30 h31, bindS]
      rw [show (zagZ a3 == zagZ a3) = true by simp, List.nil_append]
      have hc := codesI_len l1 hw
      simp only [thrumlaw03_LebWrites.j1]
      exact writes_loop l0 hb _ (by simp only [List.length_append]; omega) _ 200000 0 _ rfl (by rw [Nat.zero_add]) (by simp only [List.length_append]; omega)
  · rw [if_neg (by simpa using h)]
    simp only [thrumlaw03_LebWrites.j0, if_true]
end Go.Proofs.Ytejhbmdjdbbnpaa.Pure
