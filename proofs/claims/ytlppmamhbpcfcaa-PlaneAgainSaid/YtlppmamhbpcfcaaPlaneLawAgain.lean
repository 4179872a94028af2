/- The law PlaneAgain in plain words; conditions: numbers of 64 bits, bytes. -/
import Derived.Test.YtlppmamhbpcfcaaPLAgain
import Derived.Test.YtlppmamhbpcfcaaPlaneEqE
namespace Go.Proofs.Ytlppmamhbpcfcaa.PlaneEq
open Go.RowKit Go.Proofs.Ytlppmamhbpcfcaa.MPl Go.Proofs.Ytlppmamhbpcfcaa.Plain Go.Proofs.Ytlppmamhbpcfcaa.PlaneBits Go.Proofs.YtlppmamhbpcfcaaW.PrintWords Go.Proofs.YtlppmamhbpcfcaaW.PrintLast Go.Proofs.YtlppmamhbpcfcaaW.PrintMore
set_option linter.unusedVariables false
set_option linter.unusedSimpArgs false

theorem vals_words {P : Nat → Nat → Nat} {w m : Nat} {b : List Int} (hw : w ≤ 32) : Words (valsS P w m b) := by
  intro x hx
  obtain ⟨i, _, rfl⟩ := List.mem_map.1 hx
  have := Nat.lt_of_lt_of_le (numS_lt (fun k => pbit b (P i k)) w) (Nat.pow_le_pow_right (n := 2) (by decide) hw)
  generalize numS (fun k => pbit b (P i k)) w = v at this ⊢
  omega
theorem vals_fits {P : Nat → Nat → Nat} {w m : Nat} {b : List Int} : Fits w (valsS P w m b) := by
  intro x hx
  obtain ⟨i, _, rfl⟩ := List.mem_map.1 hx
  have := numS_lt (fun k => pbit b (P i k)) w
  exact_mod_cast this
/-- What was taken side by side has the text's bits. -/
theorem side_vals {w m : Nat} {b : List Int} (hc : Clean w m b) (q : Nat) (hq : q < 8 * b.length) : sideB w (valsS (sideP w) w m b) q = pbit b q := by
  unfold sideB
  rw [valsS_length]
  by_cases h : q < w * m
  · have hw : 0 < w := by
      rcases Nat.eq_zero_or_pos w with h0 | h0
      · rw [h0] at h; simp at h
      · exact h0
    have hi : q / w < m := Nat.div_lt_of_lt_mul h
    rw [decide_eq_true h, Bool.true_and, valsS_rd _ _ _ _ _ hi, Int.toNat_natCast, numS_bit _ _ _ (Nat.mod_lt q hw)]
    show pbit b (q / w * w + q % w) = _
    rw [Nat.mul_comm, Nat.div_add_mod]
  · rw [decide_eq_false h, Bool.false_and, hc q (by omega) hq]
theorem woven_vals {w m : Nat} {b : List Int} (hc : Clean w m b) (q : Nat) (hq : q < 8 * b.length) : wovenB w (valsS (wovenP m) w m b) q = pbit b q := by
  unfold wovenB
  rw [valsS_length]
  by_cases h : q < w * m
  · have hm : 0 < m := by
      rcases Nat.eq_zero_or_pos m with h0 | h0
      · rw [h0] at h; simp at h
      · exact h0
    have hk : q / m < w := Nat.div_lt_of_lt_mul (by rw [Nat.mul_comm]; exact h)
    rw [decide_eq_true h, Bool.true_and, valsS_rd _ _ _ _ _ (Nat.mod_lt q hm), Int.toNat_natCast, numS_bit _ _ _ hk]
    show pbit b (q / m * m + q % m) = _
    rw [Nat.mul_comm, Nat.div_add_mod]
  · rw [decide_eq_false h, Bool.false_and, hc q (by omega) hq]
theorem again (w m : Int) (b : List Int) (hb : Bytes b) : thrumlaw05_PlaneAgain.f 4000000 w m b = some true := by
  simp only [thrumlaw05_PlaneAgain.f]
  rw [live_eq _ (by omega), bindS, if_pos rfl, few_f, bindS]
  by_cases hf : (b.length : Int) ≤ 5000
  · rw [if_pos (decide_eq_true hf)]
    obtain ⟨h1, h2⟩ := Unpack_f w m b hb (by omega) 4000000 (by omega)
    obtain ⟨g1, g2⟩ := Unweave_f w m b hb (by omega) 4000000 (by omega)
    by_cases h : OkT w m b
    · rw [h1 h, bindS, g1 h, bindS]
      simp only
      rw [if_pos trivial, if_pos trivial]
      clear h1 h2 g1 g2
      have hm := h.m_le
      obtain ⟨w0, w1, m0, m1, e⟩ := bytesS_ok2 h.e
      have hn := h.n
      have hc := h.c
      have he := h.e
      rw [e] at hn
      clear h e
      obtain ⟨w, rfl⟩ := Int.eq_ofNat_of_zero_le w0
      obtain ⟨m, rfl⟩ := Int.eq_ofNat_of_zero_le m0
      rw [Int.toNat_natCast, Int.toNat_natCast] at *
      have hln : b.length = (w * m + 7) / 8 := by
        rw [← Int.natCast_mul] at hn
        omega
      clear hn
      have hP : ∃ _ : List Int, plane_Pack.f 4000000 (w : Int) (valsS (sideP w) w m b) = some (b, 0) := by
        rcases Pack_f (w : Int) (valsS (sideP w) w m b) (vals_words (by omega)) (by rw [valsS_length]; omega) 4000000 (by omega) with ⟨e, _, _, _, h3⟩ | ⟨a, h1, h2, h3, h4⟩
        · rw [valsS_length] at h3
          exact (h3 he vals_fits).elim
        · rw [valsS_length, Int.toNat_natCast, ← hln] at h4
          rw [(h4.congr (side_vals hc)).one (IsPack.self hb)] at h1
          exact ⟨b, h1⟩
      have hW : ∃ _ : List Int, plane_Weave.f 4000000 (w : Int) (valsS (wovenP m) w m b) = some (b, 0) := by
        rcases Weave_f (w : Int) (valsS (wovenP m) w m b) (vals_words (by omega)) (by rw [valsS_length]; omega) 4000000 (by omega) with ⟨e, _, _, _, h3⟩ | ⟨a, h1, h2, h3, h4⟩
        · rw [valsS_length] at h3
          exact (h3 he vals_fits).elim
        · rw [valsS_length, Int.toNat_natCast, ← hln] at h4
          rw [(h4.congr (woven_vals hc)).one (IsPack.self hb)] at h1
          exact ⟨b, h1⟩
      obtain ⟨_, hP⟩ := hP
      obtain ⟨_, hW⟩ := hW
      rw [hP, bindS, hW, bindS]
      simp only
      rw [if_pos trivial, if_pos trivial, same_f b b hb hb, bindS, if_pos (decide_eq_true rfl), bindS, if_pos (decide_eq_true rfl)]
      by_cases hw1 : (w : Int) > 1
      · rw [if_pos hw1]
      · rw [if_neg hw1]
        have hv : valsS (sideP w) w m b = valsS (wovenP m) w m b := by
          unfold valsS
          refine List.map_congr_left (fun i _ => ?_)
          congr 1
          refine numS_congr w (fun k hk => ?_)
          have hk0 : k = 0 := by omega
          have hw : w = 1 := by omega
          subst hk0 hw
          show pbit b (i * 1 + 0) = pbit b (0 * m + i)
          rw [Nat.mul_one, Nat.zero_mul, Nat.zero_add, Nat.add_zero]
        rw [hv, numbers_f 4000000 _ _ (by rw [valsS_length]; simp only [maxLen]; omega) (by rw [valsS_length]; omega), bindS, decide_eq_true rfl]
    · rw [h2 h, bindS, g2 h, bindS]
      simp only
      rw [if_pos trivial, if_neg errT_ne]
      simp only [List.length_nil]
      rw [zero_sum]
      rfl
  · rw [if_neg (by simpa using hf)]

end Go.Proofs.Ytlppmamhbpcfcaa.PlaneEq
