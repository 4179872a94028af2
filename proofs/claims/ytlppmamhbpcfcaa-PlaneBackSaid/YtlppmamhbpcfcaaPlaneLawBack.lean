/- The law PlaneBack in plain words; conditions: numbers of 64 bits, bytes. -/
import Derived.Test.YtlppmamhbpcfcaaPLBack
import Derived.Test.YtlppmamhbpcfcaaPlaneEqE
namespace Go.Proofs.Ytlppmamhbpcfcaa.PlaneEq
open Go.RowKit Go.Proofs.Ytlppmamhbpcfcaa.MPl Go.Proofs.Ytlppmamhbpcfcaa.Plain Go.Proofs.Ytlppmamhbpcfcaa.PlaneBits Go.Proofs.YtlppmamhbpcfcaaW.PrintWords Go.Proofs.YtlppmamhbpcfcaaW.PrintLast Go.Proofs.YtlppmamhbpcfcaaW.PrintMore
set_option linter.unusedVariables false
set_option linter.unusedSimpArgs false

/-! ### Back -/
theorem side_num {w : Nat} {l a : List Int} (hf : Fits w l) (hl : Words l) (ha : IsPack (sideB w l) ((w * l.length + 7) / 8) a) : valsS (sideP w) w l.length a = l := by
  apply rd_ext (valsS_length _ _ _ _)
  intro i hi
  rw [valsS_length] at hi
  rw [valsS_rd _ _ _ _ _ hi]
  obtain ⟨r0, r1⟩ := Words.rd hl i hi
  have hlt : rd l (i : Int) < 2 ^ w := by
    apply hf
    rw [rd_nat, List.getD_eq_getElem?_getD, List.getElem?_eq_getElem hi]
    exact List.getElem_mem hi
  obtain ⟨x, hx⟩ := Int.eq_ofNat_of_zero_le r0
  rw [numS_congr (h := fun j => x.testBit (w - 1 - j)) w (fun k hk => by
    show pbit a (i * w + k) = _
    have hq := side_lt (w := w) (m := l.length) hi hk
    rw [ha.bit _ (by omega), side_at hi hk, hx, Int.toNat_natCast])]
  rw [hx] at hlt ⊢
  rw [numS_self (by exact_mod_cast hlt)]
theorem woven_num {w : Nat} {l a : List Int} (hf : Fits w l) (hl : Words l) (ha : IsPack (wovenB w l) ((w * l.length + 7) / 8) a) : valsS (wovenP l.length) w l.length a = l := by
  apply rd_ext (valsS_length _ _ _ _)
  intro i hi
  rw [valsS_length] at hi
  rw [valsS_rd _ _ _ _ _ hi]
  obtain ⟨r0, r1⟩ := Words.rd hl i hi
  have hlt : rd l (i : Int) < 2 ^ w := by
    apply hf
    rw [rd_nat, List.getD_eq_getElem?_getD, List.getElem?_eq_getElem hi]
    exact List.getElem_mem hi
  obtain ⟨x, hx⟩ := Int.eq_ofNat_of_zero_le r0
  rw [numS_congr (h := fun j => x.testBit (w - 1 - j)) w (fun k hk => by
    show pbit a (k * l.length + i) = _
    have hq := woven_lt (w := w) (m := l.length) hi hk
    rw [ha.bit _ (by omega), woven_at hi hk, hx, Int.toNat_natCast])]
  rw [hx] at hlt ⊢
  rw [numS_self (by exact_mod_cast hlt)]
theorem okT_of {w : Int} {m : Nat} {a : List Int} {B : Nat → Bool} (he : (bytesS w (m : Int)).2 = 0) (ha : IsPack B ((w.toNat * m + 7) / 8) a) (hB : ∀ q, w.toNat * m ≤ q → B q = false) : OkT w (m : Int) a := by
  obtain ⟨w0, w1, m0, m1, e⟩ := bytesS_ok2 he
  refine ⟨he, ?_, ?_⟩
  · rw [e, ha.len]
    obtain ⟨w, rfl⟩ := Int.eq_ofNat_of_zero_le w0
    rw [Int.toNat_natCast, ← Int.natCast_mul]
    omega
  · intro q q1 q2
    rw [Int.toNat_natCast] at q1
    rw [ha.len] at q2
    rw [ha.bit q q2, hB q q1]
theorem back1 (w : Int) (l : List Int) (hl : Words l) (hn : l.length ≤ 5000) (k : Nat) (hk : 4000000 < k) : thrumlaw05_PlaneBack.j1 k w l true = some true := by
  obtain ⟨k, rfl⟩ : ∃ j, k = j + 1 := ⟨k - 1, by omega⟩
  rw [thrumlaw05_PlaneBack.j1, Bytes_f k (by omega)]
  rcases Pack_f w l hl (by omega) k (by omega) with ⟨e, h0, h1, h2, h3⟩ | ⟨a, h1, h2, h3, h4⟩ <;> rcases Weave_f w l hl (by omega) k (by omega) with ⟨e', g0, g1, g2, g3⟩ | ⟨a', g1, g2, g3, g4⟩
  · rw [h1, bindS, g1, bindS, bindS]
    simp only
    rw [if_pos (h2.trans g2.symm), if_neg h0, if_pos trivial]
    simp only [List.length_nil]
    rw [zero_sum]
    rfl
  · exact (h3 g2 g3).elim
  · exact (g3 h2 h3).elim
  · rw [h1, bindS, g1, bindS, bindS]
    simp only
    have o1 := okT_of h2 h4 (fun q hq => by unfold sideB; rw [decide_eq_false (by omega)]; rfl)
    have o2 := okT_of h2 g4 (fun q hq => by unfold wovenB; rw [decide_eq_false (by omega)]; rfl)
    have v1 := side_num h3 hl h4
    have v2 := woven_num h3 hl g4
    have u1 := (Unpack_f w (l.length : Int) a h4.bytes (by rw [h4.len]; have := o1.m_le; obtain ⟨_, _, _⟩ := bytesS_ok h2; have := wm_nat (w := w.toNat) (m := l.length) (by omega) (by omega); omega) k (by omega)).1 o1
    have u2 := (Unweave_f w (l.length : Int) a' g4.bytes (by rw [g4.len]; have := o1.m_le; obtain ⟨_, _, _⟩ := bytesS_ok h2; have := wm_nat (w := w.toNat) (m := l.length) (by omega) (by omega); omega) k (by omega)).1 o2
    rw [Int.toNat_natCast, v1] at u1
    rw [Int.toNat_natCast, v2] at u2
    rw [if_pos trivial, if_pos trivial, u1, bindS, u2, bindS]
    simp only
    rw [if_pos trivial, if_pos h2, if_pos o1.n, if_pos o2.n, if_pos trivial, if_pos trivial]
    rw [numbers_f k l l (by simp only [maxLen]; omega) (by omega), bindS, if_pos (decide_eq_true rfl), bindS, decide_eq_true rfl]
theorem back (w : Int) (l : List Int) (s : List Bool) (hl : Words l) : thrumlaw05_PlaneBack.f 4000010 w l s = some true := by
  simp only [thrumlaw05_PlaneBack.f]
  rw [live_eq _ (by omega), bindS, if_pos rfl, few_f, bindS]
  by_cases h1 : (l.length : Int) ≤ 5000
  · rw [if_pos (decide_eq_true h1), few_f, bindS]
    by_cases h2 : (s.length : Int) ≤ 5000
    · rw [decide_eq_true h2, Bool.not_true]
      rw [show 4000010 = 4000009 + 1 from rfl, thrumlaw05_PlaneBack.j0]
      rw [if_neg (by decide)]
      rcases Signs_f s (by omega) 4000009 (by omega) with ⟨p1, p2⟩ | ⟨p1, b, p2, p3⟩
      · rw [p2, bindS, if_neg (by omega), back1 w l hl (by omega) _ (by omega)]
      · rw [p2, bindS, if_pos (by omega)]
        have he : bytesS 1 (s.length : Int) = ((1 * (s.length : Int) + 7) / 8, 0) := by
          unfold bytesS
          rw [if_neg (by omega), if_neg (by omega)]
        have ok : OkT 1 (s.length : Int) b := okT_of (by rw [he]) (by rw [show (1 : Int).toNat = 1 from rfl, Nat.one_mul]; exact p3) (fun q hq => by
          rw [show (1 : Int).toNat = 1 from rfl, Nat.one_mul] at hq
          rw [List.getD_eq_getElem?_getD, List.getElem?_eq_none (by omega)]
          rfl)
        have hr := (Read_f (s.length : Int) b p3.bytes (by rw [p3.len]; omega) 4000009 (by omega)).1 ok
        have hs : bitsS b (s.length : Int).toNat = s := by
          rw [Int.toNat_natCast]
          apply List.ext_getElem (by simp [bitsS])
          intro j j1 j2
          have := p3.bit j (by omega)
          rw [List.getD_eq_getElem?_getD, List.getElem?_eq_getElem j2] at this
          simpa [bitsS] using this
        rw [hs] at hr
        simp only
        rw [hr, bindS]
        simp only
        rw [if_pos trivial, if_pos trivial, signs_f 4000009 s (by omega) (by omega), bindS, if_pos rfl, back1 w l hl (by omega) _ (by omega)]
    · rw [decide_eq_false h2, Bool.not_false]
      rw [show 4000010 = 4000009 + 1 from rfl, thrumlaw05_PlaneBack.j0, if_pos rfl]
  · rw [if_neg (by simpa using h1)]
    rw [show 4000010 = 4000009 + 1 from rfl, thrumlaw05_PlaneBack.j0, if_pos rfl]
end Go.Proofs.Ytlppmamhbpcfcaa.PlaneEq
