/- Signs of both, told by their bits, and the example of layer 5; conditions: at most a million signs. -/
import Derived.Test.YtlppmamhbpcfcaaPB
import Derived.Test.YtlppmamhbpcfcaaPlaneEqB
namespace Go.Proofs.Ytlppmamhbpcfcaa.PlaneEq
open Go.RowKit Go.Proofs.Ytlppmamhbpcfcaa.MPl Go.Proofs.Ytlppmamhbpcfcaa.Plain Go.Proofs.Ytlppmamhbpcfcaa.PlaneBits Go.Proofs.YtlppmamhbpcfcaaW.PrintWords Go.Proofs.YtlppmamhbpcfcaaW.PrintLast Go.Proofs.YtlppmamhbpcfcaaW.PrintMore
set_option linter.unusedVariables false
set_option linter.unusedSimpArgs false

theorem live_eq (k : Nat) (hk : 60 ≤ k) : thrumlaw05_live.f k = some true :=
  at_rounds thrumlaw05_live.mono hk (by decide +kernel)
theorem few_f (n : Int) : thrumlaw05_few.f n = some (decide (n ≤ 5000)) := rfl
theorem same_f (a b : List Int) (ha : Bytes a) (hb : Bytes b) : thrumref03_Same.f a b = some (decide (a = b)) := by
  simp only [thrumref03_Same.f, strOfNums, ByteArray.toList_mk]
  congr 1
  rw [Bool.eq_iff_iff, beq_iff_eq, decide_eq_true_eq]
  exact ⟨bytes_inj a b ha hb, fun h => by rw [h]⟩

/-- Signs as numbers. -/
def onesS (s : List Bool) : List Int := s.map fun b => if b then 1 else 0
theorem onesS_length (s : List Bool) : (onesS s).length = s.length := by simp [onesS]
theorem onesS_rd (s : List Bool) (j : Nat) : rd (onesS s) (j : Int) = if s.getD j false then 1 else 0 := by
  rw [rd_nat, onesS, List.getD_eq_getElem?_getD, List.getD_eq_getElem?_getD, List.getElem?_map]
  cases s[j]? with
  | none => rfl
  | some b => cases b <;> rfl
theorem onesS_words (s : List Bool) : Words (onesS s) := by
  intro x hx
  obtain ⟨b, _, rfl⟩ := List.mem_map.1 hx
  cases b <;> simp
theorem onesS_fits (s : List Bool) : Fits 1 (onesS s) := by
  intro x hx
  obtain ⟨b, _, rfl⟩ := List.mem_map.1 hx
  cases b <;> simp
theorem onesS_bit (s : List Bool) (q : Nat) : sideB 1 (onesS s) q = s.getD q false := by
  unfold sideB
  rw [Nat.one_mul, onesS_length, Nat.div_one, onesS_rd, show 1 - 1 - q % 1 = 0 by omega]
  by_cases h : q < s.length
  · rw [decide_eq_true h]
    cases s.getD q false <;> rfl
  · rw [decide_eq_false h, List.getD_eq_getElem?_getD, List.getElem?_eq_none (by omega)]
    rfl
theorem Signs_loop (s : List Bool) (hs : s.length ≤ 1000000) (d : Nat) : ∀ (i F : Nat) (x : List Int), i + d = s.length → x.length = s.length → (∀ j : Nat, j < s.length → rd x (j : Int) = if j < i then rd (onesS s) (j : Int) else 0) →
    plane_Signs.l0 (F + d + 1) x s (s.length : Int) (i : Int) = (plane_Pack.f F 1 (onesS s)).bind fun b => some (b.1, b.2) := by
  induction d with
  | zero =>
    intro i F x hi hx hr
    simp only [plane_Signs.l0]
    rw [if_neg (by omega)]
    have : x = onesS s := by
      apply rd_ext (by rw [hx, onesS_length])
      intro j hj
      rw [hr j (by omega), if_pos (by omega)]
    rw [this]
  | succ d ih =>
    intro i F x hi hx hr
    rw [show F + (d + 1) + 1 = (F + d + 1) + 1 by omega, plane_Signs.l0]
    rw [if_pos (by omega), if_pos (by omega), if_pos (by omega), wrap_same (i := (i : Int) + 1) (by omega) (by omega), show ((i : Int) + 1) = ((i + 1 : Nat) : Int) by omega]
    have hv : rdOf false s (i : Int) = s.getD i false := rfl
    rw [hv]
    by_cases h : s.getD i false = true
    · rw [if_pos h, if_pos (by omega), Int.toNat_natCast]
      refine ih (i + 1) F _ (by omega) (by simpa using hx) (fun j hj => ?_)
      rw [rd_set x i j 1 (by omega)]
      by_cases hj2 : i = j
      · subst hj2
        rw [if_pos rfl, if_pos (by omega), onesS_rd, if_pos h]
      · rw [if_neg hj2, hr j hj]
        by_cases hj3 : j < i
        · rw [if_pos hj3, if_pos (by omega)]
        · rw [if_neg hj3, if_neg (by omega)]
    · rw [if_neg h]
      refine ih (i + 1) F _ (by omega) hx (fun j hj => ?_)
      rw [hr j hj]
      by_cases hj3 : j < i
      · rw [if_pos hj3, if_pos (by omega)]
      · rw [if_neg hj3]
        by_cases hj2 : j = i
        · subst hj2
          rw [if_pos (by omega), onesS_rd, if_neg h]
        · rw [if_neg (by omega)]
/-- What writing signs says: too many; or so many bytes with these bits. -/
theorem Signs_f (s : List Bool) (hs : s.length ≤ 1000000) (k : Nat) (hk : 3000000 < k) :
    (4096 < s.length ∧ plane_Signs.f k s = some ([], 3)) ∨ (s.length ≤ 4096 ∧ ∃ b, plane_Signs.f k s = some (b, 0) ∧ IsPack (fun q => s.getD q false) ((s.length + 7) / 8) b) := by
  have h0 : plane_Signs.f k s = (plane_Pack.f (k - s.length - 1) 1 (onesS s)).bind fun b => some (b.1, b.2) := by
    simp only [plane_Signs.f]
    rw [if_pos (by omega), if_pos (by omega), Int.toNat_natCast]
    have := Signs_loop s hs s.length 0 (k - s.length - 1) (List.replicate s.length 0) (by omega) (by simp) (fun j hj => by
      rw [rd_nat, List.getD_eq_getElem?_getD, List.getElem?_replicate]
      simp [hj])
    rw [show k - s.length - 1 + s.length + 1 = k by omega] at this
    exact this
  rw [h0]
  have hl := onesS_length s
  by_cases h : 4096 < s.length
  · refine .inl ⟨h, ?_⟩
    rcases Pack_f 1 (onesS s) (onesS_words s) (by omega) (k - s.length - 1) (by omega) with ⟨e, he, h1, h2, h3⟩ | ⟨b, h1, h2, _⟩
    · rw [h1, bindS]
      have : bytesS 1 ((onesS s).length : Int) = (0, 3) := by
        unfold bytesS
        rw [if_neg (by omega), if_pos (by omega)]
      rw [this] at h2
      simp at h2
      rw [h2]
    · have := bytesS_ok h2
      omega
  · refine .inr ⟨by omega, ?_⟩
    have hb : (bytesS 1 ((onesS s).length : Int)).2 = 0 := by
      unfold bytesS
      rw [if_neg (by omega), if_neg (by omega)]
    rcases Pack_f 1 (onesS s) (onesS_words s) (by omega) (k - s.length - 1) (by omega) with ⟨e, he, h1, h2, h3⟩ | ⟨b, h1, h2, h3, h4⟩
    · exact (h3 hb (onesS_fits s)).elim
    · rw [h1, bindS]
      rw [show (1 : Int).toNat = 1 from rfl, hl, Nat.one_mul] at h4
      exact ⟨b, rfl, h4.congr (fun q _ => onesS_bit s q)⟩
theorem rSigns_f (s : List Bool) (hs : s.length ≤ 1000000) (k : Nat) (hk : 3000000 < k) :
    (4096 < s.length ∧ thrumref05_Signs.f k s = some ([], 3)) ∨ (s.length ≤ 4096 ∧ ∃ b, thrumref05_Signs.f k s = some (b, 0) ∧ IsPack (fun q => s.getD q false) ((s.length + 7) / 8) b) := by
  simp only [thrumref05_Signs.f]
  by_cases h : 4096 < s.length
  · exact .inl ⟨h, by rw [if_pos (by omega)]⟩
  · obtain ⟨b, h1, h2⟩ := pack_f s hs k (by omega)
    refine .inr ⟨by omega, b, ?_, h2⟩
    rw [if_neg (by omega), h1, bindS]

/-- Two results of one making are one. -/
theorem Pack_same (w : Int) (l : List Int) (hl : Words l) (hn : l.length ≤ 1000000) (k : Nat) (hk : 2000000 < k) : ∃ b e, plane_Pack.f k w l = some (b, e) ∧ thrumref05_Pack.f k w l = some (b, e) ∧ Bytes b := by
  rcases Pack_f w l hl hn k (by omega) with ⟨e, h0, h1, h2, h3⟩ | ⟨b, h1, h2, h3, h4⟩ <;> rcases rPack_f w l hl hn k hk with ⟨e', g0, g1, g2, g3⟩ | ⟨b', g1, g2, g3, g4⟩
  · exact ⟨[], e, h1, by rw [g1, g2, h2], fun x hx => by simp at hx⟩
  · exact (h3 g2 g3).elim
  · exact (g3 h2 h3).elim
  · exact ⟨b, 0, h1, by rw [g1, h4.one g4], h4.bytes⟩
theorem Weave_same (w : Int) (l : List Int) (hl : Words l) (hn : l.length ≤ 1000000) (k : Nat) (hk : 2000000 < k) : ∃ b e, plane_Weave.f k w l = some (b, e) ∧ thrumref05_Weave.f k w l = some (b, e) ∧ Bytes b := by
  rcases Weave_f w l hl hn k (by omega) with ⟨e, h0, h1, h2, h3⟩ | ⟨b, h1, h2, h3, h4⟩ <;> rcases rWeave_f w l hl hn k hk with ⟨e', g0, g1, g2, g3⟩ | ⟨b', g1, g2, g3, g4⟩
  · exact ⟨[], e, h1, by rw [g1, g2, h2], fun x hx => by simp at hx⟩
  · exact (h3 g2 g3).elim
  · exact (g3 h2 h3).elim
  · exact ⟨b, 0, h1, by rw [g1, h4.one g4], h4.bytes⟩
theorem Signs_same (s : List Bool) (hs : s.length ≤ 1000000) (k : Nat) (hk : 3000000 < k) : ∃ b e, plane_Signs.f k s = some (b, e) ∧ thrumref05_Signs.f k s = some (b, e) ∧ Bytes b := by
  rcases Signs_f s hs k hk with ⟨h1, h2⟩ | ⟨h1, b, h2, h3⟩ <;> rcases rSigns_f s hs k hk with ⟨g1, g2⟩ | ⟨g1, b', g2, g3⟩
  · exact ⟨[], 3, h2, g2, fun x hx => by simp at hx⟩
  · omega
  · omega
  · exact ⟨b, 0, h2, by rw [g2, h3.one g3], h3.bytes⟩
end Go.Proofs.Ytlppmamhbpcfcaa.PlaneEq
