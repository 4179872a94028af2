/- What packing numbers comes to, told by its bits: side by side and in planes; conditions: widths to 32, at most 4096 numbers of 64 bits. -/
import Derived.Test.YtlppmamhbpcfcaaPA
import Derived.Test.YtlppmamhbpcfcaaPlaneBits
namespace Go.Proofs.Ytlppmamhbpcfcaa.PlaneEq
open Go.RowKit Go.Proofs.Ytlppmamhbpcfcaa.MPl Go.Proofs.Ytlppmamhbpcfcaa.Plain Go.Proofs.Ytlppmamhbpcfcaa.PlaneBits Go.Proofs.YtlppmamhbpcfcaaW.PrintWords Go.Proofs.YtlppmamhbpcfcaaW.PrintLast Go.Proofs.YtlppmamhbpcfcaaW.PrintMore
set_option linter.unusedVariables false
set_option linter.unusedSimpArgs false

/-- How many bytes numbers take, or why not. -/
def bytesS (w m : Int) : Int × Int := if w < 0 ∨ 32 < w ∨ m < 0 then (0, 1) else if 4096 < m then (0, 3) else ((w * m + 7) / 8, 0)
theorem wm_small {w m : Int} (h0 : 0 ≤ w) (h1 : w ≤ 32) (m0 : 0 ≤ m) (m1 : m ≤ 4096) : 0 ≤ w * m ∧ w * m ≤ 131072 :=
  ⟨Int.mul_nonneg h0 m0, Int.le_trans (Int.mul_le_mul h1 m1 m0 (by omega)) (by decide)⟩
theorem Bytes_f (k : Nat) (hk : 1 ≤ k) (w m : Int) : plane_Bytes.f k w m = some (bytesS w m) := by
  obtain ⟨k, rfl⟩ : ∃ j, k = j + 1 := ⟨k - 1, by omega⟩
  simp only [plane_Bytes.f, plane_Bytes.j0]
  unfold bytesS
  by_cases h1 : w < 0
  · rw [if_pos h1, if_pos trivial, if_pos (.inl h1)]
  · rw [if_neg h1]
    by_cases h2 : w > 32
    · rw [if_pos h2, if_pos trivial, if_pos (.inr (.inl h2))]
    · rw [if_neg h2]
      by_cases h3 : m < 0
      · rw [if_pos (decide_eq_true h3), if_pos (.inr (.inr h3))]
      · rw [if_neg (show ¬ (decide (m < 0) = true) by simpa using h3), if_neg (show ¬ (w < 0 ∨ 32 < w ∨ m < 0) by omega)]
        by_cases h4 : m > 4096
        · rw [if_pos h4, if_pos h4]
        · rw [if_neg h4, if_neg (show ¬ (4096 < m) by omega)]
          obtain ⟨a, b⟩ := wm_small (w := w) (m := m) (by omega) (by omega) (by omega) (by omega)
          rw [wrap_same (i := w * m) (by omega) (by omega), wrap_same (by omega) (by omega)]
/-- All of the numbers have at most w bits. -/
def Fits (w : Nat) (l : List Int) : Prop := ∀ x ∈ l, x < 2 ^ w
theorem shr_zero {x : Int} (h0 : 0 ≤ x) {w : Nat} (hw : w ≤ 64) : shr .u64 x (w : Int) = 0 ↔ x < 2 ^ w := by
  unfold shr
  rw [Int.toNat_natCast, show IntKind.u64.bits = 64 from rfl, Nat.min_eq_left hw]
  have hp : (0 : Int) < 2 ^ w := by exact_mod_cast Nat.two_pow_pos w
  constructor
  · intro h
    by_cases hx : x < 2 ^ w
    · exact hx
    · have := Int.le_ediv_of_mul_le (a := 1) (b := x) hp (by omega)
      omega
  · intro h
    exact Int.ediv_eq_zero_of_lt h0 h
theorem Index_loop (w : Nat) (hw : w ≤ 64) (l : List Int) (hl : Words l) (hn : l.length ≤ maxLen) (d : Nat) : ∀ (k i : Nat), i + d = l.length → d < k →
    ∃ r, slices_IndexFunc_uint64_uint64.l0 k l (w : Int) (l.length : Int) (i : Int) = some r ∧ (0 ≤ r ↔ ¬ Fits w (l.drop i)) := by
  induction d with
  | zero =>
    intro k i hi hk
    obtain ⟨k, rfl⟩ : ∃ m, k = m + 1 := ⟨k - 1, by omega⟩
    refine ⟨-1, ?_, ?_⟩
    · simp only [slices_IndexFunc_uint64_uint64.l0]
      rw [if_neg (by omega)]
    · rw [List.drop_of_length_le (by omega)]
      refine ⟨fun h => absurd h (by decide), fun h => (h (fun x hx => ?_)).elim⟩
      simp at hx
  | succ d ih =>
    intro k i hi hk
    obtain ⟨k, rfl⟩ : ∃ m, k = m + 1 := ⟨k - 1, by omega⟩
    obtain ⟨r0, r1⟩ := Words.rd hl i (by omega)
    simp only [slices_IndexFunc_uint64_uint64.l0]
    rw [if_pos (by omega), if_pos (by omega), if_pos (by omega), if_pos (by omega), rd_drop l i (by omega)]
    by_cases h : rd l (i : Int) < 2 ^ w
    · rw [if_pos ((shr_zero r0 hw).2 h), wrap_next (by omega) (show (i : Int) < (l.length : Int) by omega) hn, show ((i : Int) + 1) = ((i + 1 : Nat) : Int) by omega]
      obtain ⟨r, hr, hf⟩ := ih k (i + 1) (by omega) (by omega)
      refine ⟨r, hr, hf.trans (not_congr ⟨fun hh x hx => ?_, fun hh x hx => hh x (List.mem_cons_of_mem _ hx)⟩)⟩
      rcases List.mem_cons.1 hx with rfl | hx
      · exact h
      · exact hh x hx
    · rw [if_neg (fun e => h ((shr_zero r0 hw).1 e))]
      exact ⟨(i : Int), rfl, ⟨fun _ hf => h (hf _ List.mem_cons_self), fun _ => by omega⟩⟩
theorem Contains_f (w : Nat) (hw : w ≤ 64) (l : List Int) (hl : Words l) (hn : l.length ≤ maxLen) (k : Nat) (hk : l.length < k) (b : Bool) (hb : b = true ↔ ¬ Fits w l) : slices_ContainsFunc_uint64_uint64.f k l (w : Int) = some b := by
  obtain ⟨r, hr, hf⟩ := Index_loop w hw l hl hn l.length k 0 (by omega) hk
  simp only [slices_ContainsFunc_uint64_uint64.f, slices_IndexFunc_uint64_uint64.f]
  rw [show (0 : Int) = ((0 : Nat) : Int) from rfl, hr, bindS]
  congr 1
  rw [Bool.eq_iff_iff, hb, decide_eq_true_eq]
  simpa using hf

/-- The bits of numbers side by side. -/
def sideB (w : Nat) (l : List Int) (q : Nat) : Bool := decide (q < w * l.length) && (rd l ((q / w : Nat) : Int)).toNat.testBit (w - 1 - q % w)
/-- The bits of numbers in planes. -/
def wovenB (w : Nat) (l : List Int) (q : Nat) : Bool := decide (q < w * l.length) && (rd l ((q % l.length : Nat) : Int)).toNat.testBit (w - 1 - q / l.length)
def sidePart (w : Nat) (l : List Int) (i k q : Nat) : Bool := decide (q < i * w + k) && sideB w l q
def wovenPart (w : Nat) (l : List Int) (i k q : Nat) : Bool := (decide (q % l.length < i) || (decide (q % l.length = i) && decide (q / l.length < k))) && wovenB w l q

theorem side_lt {w m i k : Nat} (hi : i < m) (hk : k < w) : i * w + k < w * m := by
  have : (i + 1) * w ≤ m * w := Nat.mul_le_mul_right w hi
  rw [Nat.add_mul, Nat.mul_comm m w] at this
  omega
theorem woven_lt {w m i k : Nat} (hi : i < m) (hk : k < w) : k * m + i < w * m := by
  have : (k + 1) * m ≤ w * m := Nat.mul_le_mul_right m hk
  rw [Nat.add_mul] at this
  omega
theorem side_at {w : Nat} {l : List Int} {i k : Nat} (hi : i < l.length) (hk : k < w) : sideB w l (i * w + k) = (rd l (i : Int)).toNat.testBit (w - 1 - k) := by
  unfold sideB
  rw [decide_eq_true (side_lt hi hk), Bool.true_and, Nat.mul_comm i w, Nat.mul_add_div (by omega), Nat.div_eq_of_lt hk, Nat.mul_add_mod, Nat.mod_eq_of_lt hk, Nat.add_zero]
theorem woven_at {w : Nat} {l : List Int} {i k : Nat} (hi : i < l.length) (hk : k < w) : wovenB w l (k * l.length + i) = (rd l (i : Int)).toNat.testBit (w - 1 - k) := by
  unfold wovenB
  rw [decide_eq_true (woven_lt hi hk), Bool.true_and, Nat.mul_comm k l.length, Nat.mul_add_div (by omega), Nat.div_eq_of_lt hi, Nat.mul_add_mod, Nat.mod_eq_of_lt hi, Nat.add_zero]
theorem side_step {w : Nat} {l : List Int} {i k : Nat} (hi : i < l.length) (hk : k < w) (q : Nat) :
    (if q = i * w + k then sidePart w l i k (i * w + k) || (rd l (i : Int)).toNat.testBit (w - 1 - k) else sidePart w l i k q) = sidePart w l i (k + 1) q := by
  unfold sidePart
  by_cases h : q = i * w + k
  · subst h
    rw [if_pos rfl, side_at hi hk]
    simp
  · rw [if_neg h]
    by_cases h1 : q < i * w + k
    · rw [decide_eq_true h1, decide_eq_true (show q < i * w + (k + 1) by omega)]
    · rw [decide_eq_false h1, decide_eq_false (show ¬ q < i * w + (k + 1) by omega)]
theorem woven_step {w : Nat} {l : List Int} {i k : Nat} (hi : i < l.length) (hk : k < w) (q : Nat) :
    (if q = k * l.length + i then wovenPart w l i k (k * l.length + i) || (rd l (i : Int)).toNat.testBit (w - 1 - k) else wovenPart w l i k q) = wovenPart w l i (k + 1) q := by
  unfold wovenPart
  have hd : (k * l.length + i) / l.length = k := by rw [Nat.mul_comm k l.length, Nat.mul_add_div (by omega), Nat.div_eq_of_lt hi, Nat.add_zero]
  have hm : (k * l.length + i) % l.length = i := by rw [Nat.mul_comm k l.length, Nat.mul_add_mod, Nat.mod_eq_of_lt hi]
  by_cases h : q = k * l.length + i
  · subst h
    rw [if_pos rfl, woven_at hi hk, hd, hm]
    simp
  · rw [if_neg h]
    have hne : ¬ (q % l.length = i ∧ q / l.length = k) := by
      rintro ⟨h1, h2⟩
      apply h
      have := Nat.div_add_mod q l.length
      rw [h1, h2, Nat.mul_comm] at this
      exact this.symm
    by_cases h1 : q % l.length = i
    · have h2 : ¬ q / l.length = k := fun e => hne ⟨h1, e⟩
      by_cases h3 : q / l.length < k
      · rw [decide_eq_true h3, decide_eq_true (show q / l.length < k + 1 by omega)]
      · rw [decide_eq_false h3, decide_eq_false (show ¬ q / l.length < k + 1 by omega)]
    · rw [decide_eq_false h1]
      simp
theorem side_end (w : Nat) (l : List Int) (i q : Nat) : sidePart w l i w q = sidePart w l (i + 1) 0 q := by
  unfold sidePart
  rw [Nat.add_mul, Nat.one_mul, Nat.add_zero]
theorem woven_end (w : Nat) (l : List Int) (i q : Nat) (hi : i < l.length) : wovenPart w l i w q = wovenPart w l (i + 1) 0 q := by
  unfold wovenPart
  by_cases h : q < w * l.length
  · have : q / l.length < w := Nat.div_lt_of_lt_mul (by rw [Nat.mul_comm]; exact h)
    rw [decide_eq_true this]
    congr 1
    rw [Bool.eq_iff_iff]
    simp
    omega
  · unfold wovenB
    rw [decide_eq_false h]
    simp
theorem side_all (w : Nat) (l : List Int) (q : Nat) : sidePart w l l.length 0 q = sideB w l q := by
  unfold sidePart sideB
  by_cases h : q < w * l.length
  · rw [decide_eq_true h, decide_eq_true (show q < l.length * w + 0 by rw [Nat.mul_comm]; exact h)]
    simp
  · rw [decide_eq_false h]
    simp
theorem woven_all (w : Nat) (l : List Int) (q : Nat) : wovenPart w l l.length 0 q = wovenB w l q := by
  unfold wovenPart wovenB
  by_cases h : q < w * l.length
  · rcases Nat.eq_zero_or_pos l.length with h0 | h0
    · rw [h0] at h; simp at h
    · have := Nat.mod_lt q h0
      rw [decide_eq_true this]
      simp
  · rw [decide_eq_false h]
    simp
theorem side_none (w : Nat) (l : List Int) (q : Nat) : sidePart w l 0 0 q = false := by
  unfold sidePart
  simp
theorem woven_none (w : Nat) (l : List Int) (q : Nat) : wovenPart w l 0 0 q = false := by
  unfold wovenPart
  simp
theorem room {w m : Nat} : w * m ≤ 8 * ((w * m + 7) / 8) := by omega
theorem wm_nat {w m : Nat} (hw : w ≤ 32) (hm : m ≤ 4096) : w * m ≤ 131072 := Nat.le_trans (Nat.mul_le_mul hw hm) (by decide)
theorem Pack_in (w : Nat) (hw : w ≤ 32) (l : List Int) (hl : Words l) (hn : l.length ≤ 4096) (i : Nat) (hi : i < l.length) (d : Nat) : ∀ (k : Nat) (b : List Int), k + d = w → IsPack (sidePart w l i k) ((w * l.length + 7) / 8) b →
    ∃ b1, IsPack (sidePart w l i w) ((w * l.length + 7) / 8) b1 ∧ ∀ F : Nat, plane_Pack.l1 (F + d + 1) (w : Int) b (i : Int) (rd l (i : Int)) l (l.length : Int) (i : Int) (w : Int) (k : Int) = plane_Pack.l0 F (w : Int) b1 l (l.length : Int) ((i + 1 : Nat) : Int) := by
  induction d with
  | zero =>
    intro k b hk hb
    obtain rfl : k = w := by omega
    refine ⟨b, hb, fun F => ?_⟩
    simp only [plane_Pack.l1]
    rw [if_neg (by omega), wrap_same (by omega) (by omega)]
    rfl
  | succ d ih =>
    intro k b hk hb
    have hlt := side_lt (w := w) (m := l.length) hi (show k < w by omega)
    have hwm := wm_nat hw hn
    have hb1 := (hb.set (p := i * w + k) (Nat.lt_of_lt_of_le hlt room) ((rd l (i : Int)).toNat.testBit (w - 1 - k))).congr (fun q _ => side_step hi (show k < w by omega) q)
    obtain ⟨b1, h1, h2⟩ := ih (k + 1) _ (by omega) hb1
    refine ⟨b1, h1, fun F => ?_⟩
    rw [← h2 F]
    obtain ⟨r0, r1⟩ := Words.rd hl i hi
    obtain ⟨x, hx⟩ := Int.eq_ofNat_of_zero_le r0
    rw [hx, Int.toNat_natCast]
    rw [show F + (d + 1) + 1 = (F + d + 1) + 1 by omega]
    simp only [plane_Pack.l1]
    have e0 : (i : Int) * (w : Int) = ((i * w : Nat) : Int) := by rw [Int.natCast_mul]
    have e1 : wrap64 (wrap64 ((i : Int) * (w : Int)) + (k : Int)) = ((i * w + k : Nat) : Int) := by
      rw [e0, wrap_same (i := ((i * w : Nat) : Int)) (by omega) (by omega), wrap_same (by omega) (by omega)]
      omega
    have e2 : wrap64 (wrap64 ((w : Int) - 1) - (k : Int)) = ((w - 1 - k : Nat) : Int) := by
      rw [wrap_same (i := (w : Int) - 1) (by omega) (by omega), wrap_same (by omega) (by omega)]
      omega
    have e3 : wrap64 (7 - Go.bits .and .i64 ((i * w + k : Nat) : Int) 7) = ((7 - (i * w + k) % 8 : Nat) : Int) := by
      rw [and7 _ (by omega), wrap_same (by omega) (by omega)]
      omega
    have e4 : ((i * w + k : Nat) : Int) / 8 = (((i * w + k) / 8 : Nat) : Int) := by omega
    have hl8 : (i * w + k) / 8 < b.length := by
      rw [hb.len]
      omega
    rw [e1, e2, e3, e4, bit_and x (by omega) _ (by omega)]
    rw [put_bit hb.bytes _ hl8]
    rw [if_pos (by omega), if_pos (by omega), if_pos (by omega), if_pos (by omega), if_pos (by omega), wrap_same (i := (k : Int) + 1) (by omega) (by omega)]
    rfl
theorem Pack_loop (w : Nat) (hw : w ≤ 32) (l : List Int) (hl : Words l) (hn : l.length ≤ 4096) (d : Nat) : ∀ (i : Nat) (b : List Int), i + d = l.length → IsPack (sidePart w l i 0) ((w * l.length + 7) / 8) b →
    ∃ b1, IsPack (sideB w l) ((w * l.length + 7) / 8) b1 ∧ ∀ F : Nat, plane_Pack.l0 (F + d * (w + 2) + 1) (w : Int) b l (l.length : Int) (i : Int) = some (b1, 0) := by
  induction d with
  | zero =>
    intro i b hi hb
    obtain rfl : i = l.length := by omega
    refine ⟨b, hb.congr (fun q _ => side_all w l q), fun F => ?_⟩
    simp only [plane_Pack.l0]
    rw [if_neg (by omega)]
  | succ d ih =>
    intro i b hi hb
    obtain ⟨b1, h1, h2⟩ := Pack_in w hw l hl hn i (by omega) w 0 b (by omega) hb
    obtain ⟨b2, h3, h4⟩ := ih (i + 1) b1 (by omega) (h1.congr (fun q _ => side_end w l i q))
    refine ⟨b2, h3, fun F => ?_⟩
    rw [show F + (d + 1) * (w + 2) + 1 = ((F + d * (w + 2) + 1) + w + 1) + 1 by rw [Nat.add_mul]; omega]
    simp only [plane_Pack.l0]
    rw [if_pos (by omega), if_pos (by omega), if_pos (by omega)]
    have := h2 (F + d * (w + 2) + 1)
    rw [h4 F] at this
    exact this
/-- What packing says of numbers that are none of such a width, or too many. -/
theorem Pack_f (w : Int) (l : List Int) (hl : Words l) (hn : l.length ≤ 1000000) (k : Nat) (hk : 1000000 < k) :
    (∃ e, e ≠ 0 ∧ plane_Pack.f k w l = some ([], e) ∧ e = (if (bytesS w (l.length : Int)).2 = 0 then 1 else (bytesS w (l.length : Int)).2) ∧ ((bytesS w (l.length : Int)).2 = 0 → ¬ Fits w.toNat l)) ∨
    (∃ b, plane_Pack.f k w l = some (b, 0) ∧ (bytesS w (l.length : Int)).2 = 0 ∧ Fits w.toNat l ∧ IsPack (sideB w.toNat l) ((w.toNat * l.length + 7) / 8) b) := by
  simp only [plane_Pack.f]
  rw [Bytes_f k (by omega), bindS]
  by_cases hb : (bytesS w (l.length : Int)).2 = 0
  · rw [if_pos hb]
    have hw : 0 ≤ w ∧ w ≤ 32 ∧ l.length ≤ 4096 := by
      unfold bytesS at hb
      split at hb
      · simp at hb
      · split at hb
        · simp at hb
        · omega
    obtain ⟨h0, h32, hm⟩ := hw
    have hb1 : (bytesS w (l.length : Int)).1 = (w * (l.length : Int) + 7) / 8 := by
      unfold bytesS
      rw [if_neg (show ¬ (w < 0 ∨ 32 < w ∨ (l.length : Int) < 0) by omega), if_neg (show ¬ (4096 < (l.length : Int)) by omega)]
    obtain ⟨w, rfl⟩ := Int.eq_ofNat_of_zero_le h0
    by_cases hf : Fits w l
    · refine .inr ?_
      rw [Contains_f w (by omega) l hl (by simp only [maxLen]; omega) k (by omega) false (by simp [hf]), bindS]
      rw [if_neg (by decide), hb1, show ((w : Int) * (l.length : Int) + 7) / 8 = (((w * l.length + 7) / 8 : Nat) : Int) by rw [← Int.natCast_mul]; omega]
      have hwm := wm_nat (w := w) (m := l.length) (by omega) hm
      rw [if_pos (by omega), if_pos (by omega), Int.toNat_natCast]
      obtain ⟨b1, h1, h2⟩ := Pack_loop w (by omega) l hl hm l.length 0 _ (by omega) ((IsPack.zeros _).congr (fun q _ => (side_none w l q).symm))
      have hle : l.length * (w + 2) ≤ 4096 * 34 := Nat.mul_le_mul hm (by omega)
      have := h2 (k - (l.length * (w + 2) + 1))
      rw [show k - (l.length * (w + 2) + 1) + l.length * (w + 2) + 1 = k by omega] at this
      exact ⟨b1, this, hb, hf, h1⟩
    · refine .inl ⟨1, by decide, ?_, by rw [if_pos hb], fun _ => hf⟩
      rw [Contains_f w (by omega) l hl (by simp only [maxLen]; omega) k (by omega) true (by simp [hf]), bindS, if_pos rfl]
  · rw [if_neg hb]
    exact .inl ⟨_, hb, rfl, by rw [if_neg hb], fun h => (hb h).elim⟩
theorem Weave_in (w : Nat) (hw : w ≤ 32) (l : List Int) (hl : Words l) (hn : l.length ≤ 4096) (i : Nat) (hi : i < l.length) (d : Nat) : ∀ (k : Nat) (b : List Int), k + d = w → IsPack (wovenPart w l i k) ((w * l.length + 7) / 8) b →
    ∃ b1, IsPack (wovenPart w l i w) ((w * l.length + 7) / 8) b1 ∧ ∀ F : Nat, plane_Weave.l1 (F + d + 1) (w : Int) b (i : Int) (rd l (i : Int)) l (l.length : Int) (i : Int) (w : Int) (k : Int) = plane_Weave.l0 F (w : Int) b1 l (l.length : Int) ((i + 1 : Nat) : Int) := by
  induction d with
  | zero =>
    intro k b hk hb
    obtain rfl : k = w := by omega
    refine ⟨b, hb, fun F => ?_⟩
    simp only [plane_Weave.l1]
    rw [if_neg (by omega), wrap_same (by omega) (by omega)]
    rfl
  | succ d ih =>
    intro k b hk hb
    have hlt := woven_lt (w := w) (m := l.length) hi (show k < w by omega)
    have hwm := wm_nat hw hn
    have hb1 := (hb.set (p := k * l.length + i) (Nat.lt_of_lt_of_le hlt room) ((rd l (i : Int)).toNat.testBit (w - 1 - k))).congr (fun q _ => woven_step hi (show k < w by omega) q)
    obtain ⟨b1, h1, h2⟩ := ih (k + 1) _ (by omega) hb1
    refine ⟨b1, h1, fun F => ?_⟩
    rw [← h2 F]
    obtain ⟨r0, r1⟩ := Words.rd hl i hi
    obtain ⟨x, hx⟩ := Int.eq_ofNat_of_zero_le r0
    rw [hx, Int.toNat_natCast]
    rw [show F + (d + 1) + 1 = (F + d + 1) + 1 by omega]
    simp only [plane_Weave.l1]
    have e0 : (k : Int) * (l.length : Int) = ((k * l.length : Nat) : Int) := by rw [Int.natCast_mul]
    have e1 : wrap64 (wrap64 ((k : Int) * (l.length : Int)) + (i : Int)) = ((k * l.length + i : Nat) : Int) := by
      rw [e0, wrap_same (i := ((k * l.length : Nat) : Int)) (by omega) (by omega), wrap_same (by omega) (by omega)]
      omega
    have e2 : wrap64 (wrap64 ((w : Int) - 1) - (k : Int)) = ((w - 1 - k : Nat) : Int) := by
      rw [wrap_same (i := (w : Int) - 1) (by omega) (by omega), wrap_same (by omega) (by omega)]
      omega
    have e3 : wrap64 (7 - Go.bits .and .i64 ((k * l.length + i : Nat) : Int) 7) = ((7 - (k * l.length + i) % 8 : Nat) : Int) := by
      rw [and7 _ (by omega), wrap_same (by omega) (by omega)]
      omega
    have e4 : ((k * l.length + i : Nat) : Int) / 8 = (((k * l.length + i) / 8 : Nat) : Int) := by omega
    have hl8 : (k * l.length + i) / 8 < b.length := by
      rw [hb.len]
      omega
    rw [e1, e2, e3, e4, bit_and x (by omega) _ (by omega)]
    rw [put_bit hb.bytes _ hl8]
    rw [if_pos (by omega), if_pos (by omega), if_pos (by omega), if_pos (by omega), if_pos (by omega), wrap_same (i := (k : Int) + 1) (by omega) (by omega)]
    rfl
theorem Weave_loop (w : Nat) (hw : w ≤ 32) (l : List Int) (hl : Words l) (hn : l.length ≤ 4096) (d : Nat) : ∀ (i : Nat) (b : List Int), i + d = l.length → IsPack (wovenPart w l i 0) ((w * l.length + 7) / 8) b →
    ∃ b1, IsPack (wovenB w l) ((w * l.length + 7) / 8) b1 ∧ ∀ F : Nat, plane_Weave.l0 (F + d * (w + 2) + 1) (w : Int) b l (l.length : Int) (i : Int) = some (b1, 0) := by
  induction d with
  | zero =>
    intro i b hi hb
    obtain rfl : i = l.length := by omega
    refine ⟨b, hb.congr (fun q _ => woven_all w l q), fun F => ?_⟩
    simp only [plane_Weave.l0]
    rw [if_neg (by omega)]
  | succ d ih =>
    intro i b hi hb
    obtain ⟨b1, h1, h2⟩ := Weave_in w hw l hl hn i (by omega) w 0 b (by omega) hb
    obtain ⟨b2, h3, h4⟩ := ih (i + 1) b1 (by omega) (h1.congr (fun q _ => woven_end w l i q (by omega)))
    refine ⟨b2, h3, fun F => ?_⟩
    rw [show F + (d + 1) * (w + 2) + 1 = ((F + d * (w + 2) + 1) + w + 1) + 1 by rw [Nat.add_mul]; omega]
    simp only [plane_Weave.l0]
    rw [if_pos (by omega), if_pos (by omega), if_pos (by omega)]
    have := h2 (F + d * (w + 2) + 1)
    rw [h4 F] at this
    exact this
/-- What packing says of numbers that are none of such a width, or too many. -/
theorem Weave_f (w : Int) (l : List Int) (hl : Words l) (hn : l.length ≤ 1000000) (k : Nat) (hk : 1000000 < k) :
    (∃ e, e ≠ 0 ∧ plane_Weave.f k w l = some ([], e) ∧ e = (if (bytesS w (l.length : Int)).2 = 0 then 1 else (bytesS w (l.length : Int)).2) ∧ ((bytesS w (l.length : Int)).2 = 0 → ¬ Fits w.toNat l)) ∨
    (∃ b, plane_Weave.f k w l = some (b, 0) ∧ (bytesS w (l.length : Int)).2 = 0 ∧ Fits w.toNat l ∧ IsPack (wovenB w.toNat l) ((w.toNat * l.length + 7) / 8) b) := by
  simp only [plane_Weave.f]
  rw [Bytes_f k (by omega), bindS]
  by_cases hb : (bytesS w (l.length : Int)).2 = 0
  · rw [if_pos hb]
    have hw : 0 ≤ w ∧ w ≤ 32 ∧ l.length ≤ 4096 := by
      unfold bytesS at hb
      split at hb
      · simp at hb
      · split at hb
        · simp at hb
        · omega
    obtain ⟨h0, h32, hm⟩ := hw
    have hb1 : (bytesS w (l.length : Int)).1 = (w * (l.length : Int) + 7) / 8 := by
      unfold bytesS
      rw [if_neg (show ¬ (w < 0 ∨ 32 < w ∨ (l.length : Int) < 0) by omega), if_neg (show ¬ (4096 < (l.length : Int)) by omega)]
    obtain ⟨w, rfl⟩ := Int.eq_ofNat_of_zero_le h0
    by_cases hf : Fits w l
    · refine .inr ?_
      rw [Contains_f w (by omega) l hl (by simp only [maxLen]; omega) k (by omega) false (by simp [hf]), bindS]
      rw [if_neg (by decide), hb1, show ((w : Int) * (l.length : Int) + 7) / 8 = (((w * l.length + 7) / 8 : Nat) : Int) by rw [← Int.natCast_mul]; omega]
      have hwm := wm_nat (w := w) (m := l.length) (by omega) hm
      rw [if_pos (by omega), if_pos (by omega), Int.toNat_natCast]
      obtain ⟨b1, h1, h2⟩ := Weave_loop w (by omega) l hl hm l.length 0 _ (by omega) ((IsPack.zeros _).congr (fun q _ => (woven_none w l q).symm))
      have hle : l.length * (w + 2) ≤ 4096 * 34 := Nat.mul_le_mul hm (by omega)
      have := h2 (k - (l.length * (w + 2) + 1))
      rw [show k - (l.length * (w + 2) + 1) + l.length * (w + 2) + 1 = k by omega] at this
      exact ⟨b1, this, hb, hf, h1⟩
    · refine .inl ⟨1, by decide, ?_, by rw [if_pos hb], fun _ => hf⟩
      rw [Contains_f w (by omega) l hl (by simp only [maxLen]; omega) k (by omega) true (by simp [hf]), bindS, if_pos rfl]
  · rw [if_neg hb]
    exact .inl ⟨_, hb, rfl, by rw [if_neg hb], fun h => (hb h).elim⟩
end Go.Proofs.Ytlppmamhbpcfcaa.PlaneEq
