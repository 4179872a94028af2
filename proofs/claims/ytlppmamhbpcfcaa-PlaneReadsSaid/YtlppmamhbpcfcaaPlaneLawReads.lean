/- The law PlaneReads in plain words; conditions: numbers of 64 bits, bytes. -/
import Derived.Test.YtlppmamhbpcfcaaPLReads
import Derived.Test.YtlppmamhbpcfcaaPlaneEqE
namespace Go.Proofs.Ytlppmamhbpcfcaa.PlaneEq
open Go.RowKit Go.Proofs.Ytlppmamhbpcfcaa.MPl Go.Proofs.Ytlppmamhbpcfcaa.Plain Go.Proofs.Ytlppmamhbpcfcaa.PlaneBits Go.Proofs.YtlppmamhbpcfcaaW.PrintWords Go.Proofs.YtlppmamhbpcfcaaW.PrintLast Go.Proofs.YtlppmamhbpcfcaaW.PrintMore
set_option linter.unusedVariables false
set_option linter.unusedSimpArgs false

theorem Unpack_same (w m : Int) (b : List Int) (hb : Bytes b) (hn : b.length ≤ 100000) (k : Nat) (hk : 3000000 < k) : ∃ v e, plane_Unpack.f k w m b = some (v, e) ∧ thrumref05_Unpack.f k w m b = some (v, e) ∧ v.length ≤ 4096 := by
  obtain ⟨h1, h2⟩ := Unpack_f w m b hb hn k (by omega)
  obtain ⟨g1, g2⟩ := rUnpack_f w m b hb hn k hk
  by_cases h : OkT w m b
  · exact ⟨_, _, h1 h, g1 h, by rw [valsS_length]; exact h.m_le⟩
  · exact ⟨_, _, h2 h, g2 h, by simp⟩
theorem Unweave_same (w m : Int) (b : List Int) (hb : Bytes b) (hn : b.length ≤ 100000) (k : Nat) (hk : 3000000 < k) : ∃ v e, plane_Unweave.f k w m b = some (v, e) ∧ thrumref05_Unweave.f k w m b = some (v, e) ∧ v.length ≤ 4096 := by
  obtain ⟨h1, h2⟩ := Unweave_f w m b hb hn k (by omega)
  obtain ⟨g1, g2⟩ := rUnweave_f w m b hb hn k hk
  by_cases h : OkT w m b
  · exact ⟨_, _, h1 h, g1 h, by rw [valsS_length]; exact h.m_le⟩
  · exact ⟨_, _, h2 h, g2 h, by simp⟩
theorem Read_same (m : Int) (b : List Int) (hb : Bytes b) (hn : b.length ≤ 100000) (k : Nat) (hk : 3000000 < k) : ∃ v e, plane_Read.f k m b = some (v, e) ∧ thrumref05_Read.f k m b = some (v, e) ∧ v.length ≤ 4096 := by
  obtain ⟨h1, h2⟩ := Read_f m b hb hn k hk
  obtain ⟨g1, g2⟩ := rRead_f m b hb hn k hk
  by_cases h : OkT 1 m b
  · exact ⟨_, _, h1 h, g1 h, by rw [bitsS_length]; exact h.m_le⟩
  · exact ⟨_, _, h2 h, g2 h, by simp⟩
theorem reads (w m : Int) (b : List Int) (hb : Bytes b) (x : Int) (x0 : 0 ≤ x) (x1 : x < 18446744073709551616) : thrumlaw05_PlaneReads.f 4000000 w m b x = some true := by
  simp only [thrumlaw05_PlaneReads.f]
  rw [live_eq _ (by omega), bindS, if_pos rfl, few_f, bindS]
  by_cases h1 : (b.length : Int) ≤ 5000
  · rw [if_pos (decide_eq_true h1)]
    obtain ⟨v1, e1, p1, q1, l1⟩ := Unpack_same w m b hb (by omega) 4000000 (by omega)
    obtain ⟨v2, e2, p2, q2, l2⟩ := Unweave_same w m b hb (by omega) 4000000 (by omega)
    obtain ⟨v3, e3, p3, q3, l3⟩ := Read_same m b hb (by omega) 4000000 (by omega)
    obtain ⟨n, rfl⟩ := Int.eq_ofNat_of_zero_le x0
    rw [p1, bindS, q1, bindS, p2, bindS, q2, bindS, p3, bindS, q3, bindS, Bytes_f _ (by omega), bindS, rBytes_f _ (by omega), bindS]
    simp only [numbers_f 4000000 v1 v1 (by simp only [maxLen]; omega) (by omega), numbers_f 4000000 v2 v2 (by simp only [maxLen]; omega) (by omega), signs_f 4000000 v3 (by omega) (by omega), bindS, Width_f 4000000 (by omega) n (by omega), rWidth_f 4000000 (by omega) n (by omega)]
    simp
  · rw [if_neg (by simpa using h1)]

end Go.Proofs.Ytlppmamhbpcfcaa.PlaneEq
