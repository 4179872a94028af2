/- The plain side of LebMany: two lists of numbers are read as one, one behind the other; no condition beyond the row's own sizes. -/
import Derived.Test.YtejhbmdjdbbnpaaMLebx3
import Derived.Test.YtejhbmdjdbbnpaaLebEqA
namespace Go.Proofs.Ytejhbmdjdbbnpaa.Pure
open Go.RowKit Go.Proofs.Ytejhbmdjdbbnpaa.MLeb Go.Proofs.Ytejhbmdjdbbnpaa.LebEq Go.Proofs.Ytejhbmdjdbbnpaa.DrawPlain Go.Proofs.Ytejhbmdjdbbnpaa.LebPlain Go.Proofs.YtejhbmdjdbbnpaaW.PrintWords
namespace LebM
theorem words_of {l : List Int} (h : ∀ x ∈ l, (Lit.int .u64 x).wf = true) : Words l := fun x hx => wf_u64 (h x hx)
theorem j0_ok (K : Nat) (hK : 200000 ≤ K) (a b : List Int) (ha : Words a) (hb : Words b) (la : a.length ≤ 500) (lb : b.length ≤ 500) : thrumlaw03_LebMany.j0 K a b true false = some true := by
  obtain ⟨k, rfl⟩ : ∃ m, K = m + 1 := ⟨K - 1, by omega⟩
  have ca := codesI_len a ha
  have cb := codesI_len b hb
  have hab : Words (a ++ b) := fun x hx => by
    rcases List.mem_append.1 hx with h | h
    · exact ha x h
    · exact hb x h
  have hy : Bytes (codesI a ++ codesI b) := (codesI_bytes a).append (codesI_bytes b)
  have ly : (codesI a ++ codesI b).length ≤ 1000000 := by simp only [List.length_append]; omega
  have m1 := many_codes (a ++ b) hab [] [] []
  have m2 := many_codes a ha [] (codesI b) []
  have m3 := many_short (a ++ b) hab [] []
  have m4 := many_codes b hb (codesI a) [] []
  simp only [List.nil_append, List.append_nil, codesI_append, List.length_nil] at m1 m2 m3 m4
  simp only [thrumlaw03_LebMany.j0]
  rw [if_neg (by simp), Put_f k [] a ha (by omega) (by simp) (by omega)]
  simp only [bindS, List.nil_append]
  rw [Put_f k (codesI a) b hb (by omega) (by omega) (by omega)]
  simp only [bindS]
  rw [wrap_same (i := (a.length : Int) + (b.length : Int)) (by omega) (by omega), wrap_same (i := (a.length : Int) + (b.length : Int) + 1) (by omega) (by omega)]
  rw [many_f k _ 0 _ hy ly (by omega) (by omega) (by omega), many_f k _ 0 (a.length : Int) hy ly (by omega) (by omega) (by omega), many_f k _ 0 _ hy ly (by omega) (by omega) (by omega)]
  rw [if_neg (by omega), if_neg (by omega), if_neg (by omega)]
  rw [show ((a.length : Int) + (b.length : Int)).toNat = (a ++ b).length by simp; omega, show ((a.length : Int) + (b.length : Int) + 1).toNat = (a ++ b).length + 1 by simp; omega, Int.toNat_natCast]
  rw [show ((0 : Nat) : Int) = 0 from rfl] at m1 m2 m3
  rw [m1, m2, m3]
  simp only [bindS]
  rw [many_f k _ _ (b.length : Int) hy ly (by omega) (by omega) (by omega), if_neg (by omega), Int.toNat_natCast, m4]
  simp only [bindS, if_true, List.length_nil, Nat.zero_add]
  rw [if_pos (by omega), if_pos (by omega), numbers_f k _ _ (by simp [maxLen]; omega) (by simp; omega)]
  simp only [bindS, decide_true, if_true]
  rw [numbers_f k _ _ (by simp [maxLen]; omega) (by omega)]
  simp only [bindS, decide_true, if_true]
  rw [numbers_f k _ _ (by simp [maxLen]; omega) (by omega)]
  simp
end LebM
open LebM in
theorem LebMany : thrumlaw03_LebMany.Pure := by
  intro a b _ _ ha _ _ hb
  refine ⟨200000, ?_⟩
  simp only [thrumlaw03_LebMany.f, live_eq 200000 (by omega), bindS, if_true, few_f, List.length_nil]
  by_cases h1 : (a.length : Int) ≤ 500
  · rw [if_pos (by simpa using h1)]
    by_cases h2 : (b.length : Int) ≤ 500
    · rw [decide_eq_true (by simpa using h2)]
      exact j0_ok 200000 (by omega) a b (words_of ha) (words_of hb) (by omega) (by omega)
    · rw [decide_eq_false (by simpa using h2)]
      simp [thrumlaw03_LebMany.j0]
  · rw [if_neg (by simpa using h1)]
    simp [thrumlaw03_LebMany.j0]
end Go.Proofs.Ytejhbmdjdbbnpaa.Pure
