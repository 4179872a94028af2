/- What the document's packing comes to, told by its bits, and signs of both; conditions: widths to 32, at most 4096 numbers of 64 bits. -/
import Derived.Test.YtlppmamhbpcfcaaPC
import Derived.Test.YtlppmamhbpcfcaaPlaneEqA
namespace Go.Proofs.Ytlppmamhbpcfcaa.PlaneEq
open Go.RowKit Go.Proofs.Ytlppmamhbpcfcaa.MPl Go.Proofs.Ytlppmamhbpcfcaa.Plain Go.Proofs.Ytlppmamhbpcfcaa.PlaneBits Go.Proofs.YtlppmamhbpcfcaaW.PrintWords Go.Proofs.YtlppmamhbpcfcaaW.PrintLast Go.Proofs.YtlppmamhbpcfcaaW.PrintMore
set_option linter.unusedVariables false
set_option linter.unusedSimpArgs false

theorem rBytes_f (k : Nat) (hk : 1 ≤ k) (w m : Int) : thrumref05_Bytes.f k w m = some (bytesS w m) := by
  obtain ⟨k, rfl⟩ : ∃ j, k = j + 1 := ⟨k - 1, by omega⟩
  simp only [thrumref05_Bytes.f, thrumref05_Bytes.j0]
  unfold bytesS
  by_cases h1 : w < 0
  · rw [if_pos h1, if_pos trivial, if_pos (.inl h1)]
  · rw [if_neg h1]
    by_cases h2 : w > 32
    · rw [if_pos h2, if_pos trivial, if_pos (.inr (.inl h2))]
    · rw [if_neg h2]
      by_cases h3 : m < 0
      · rw [if_pos (decide_eq_true h3), if_pos (.inr (.inr h3))]
      · rw [if_neg (show ¬ (decide (m < 0) = true) by simpa using h3), if_neg (show ¬ (w < 0 ∨ 32 < w ∨ m < 0) by omega)]
        by_cases h4 : m > 4096
        · rw [if_pos h4, if_pos h4]
        · rw [if_neg h4, if_neg (show ¬ (4096 < m) by omega)]
          obtain ⟨a, b⟩ := wm_small (w := w) (m := m) (by omega) (by omega) (by omega) (by omega)
          rw [wrap_same (i := w * m) (by omega) (by omega), wrap_same (i := w * m + 7) (by omega) (by omega), Int.tdiv_eq_ediv_of_nonneg (by omega), wrap_same (by omega) (by omega)]
theorem blen_ge (s : Nat) : ∀ n : Nat, n < 2 ^ s → s ≤ 64 → n < 2 ^ blen n := by
  induction s with
  | zero =>
    intro n h _
    obtain rfl : n = 0 := by simpa using h
    exact Nat.two_pow_pos _
  | succ s ih =>
    intro n h hs
    rcases Nat.eq_zero_or_pos n with rfl | h0
    · exact Nat.two_pow_pos _
    · have hlt : n < 18446744073709551616 := Nat.lt_of_lt_of_le h (Nat.pow_le_pow_right (n := 2) (by decide) hs)
      rw [Nat.pow_succ] at h
      have := ih (n / 2) (by omega) (by omega)
      rw [blen_half h0 hlt, Nat.pow_succ]
      omega
theorem blen_iff {n w : Nat} (hn : n < 18446744073709551616) (hw : w ≤ 64) : blen n ≤ w ↔ n < 2 ^ w :=
  ⟨fun h => Nat.lt_of_lt_of_le (blen_ge 64 n hn (by omega)) (Nat.pow_le_pow_right (by decide) h), fun h => blen_le w n h hw⟩
theorem rWidth_loop (s : Nat) : ∀ (n c F : Nat), n < 2 ^ s → s ≤ 64 → c + s ≤ 1000 → thrumref05_Width.l0 (F + s + 1) (n : Int) (c : Int) = some ((c + blen n : Nat) : Int) := by
  induction s with
  | zero =>
    intro n c F h _ _
    obtain rfl : n = 0 := by simpa using h
    simp only [thrumref05_Width.l0]
    rw [if_neg (by omega), show blen 0 = 0 from blenF_zero 64]
    rfl
  | succ s ih =>
    intro n c F h hs hc
    rw [show F + (s + 1) + 1 = (F + s + 1) + 1 by omega, thrumref05_Width.l0]
    rcases Nat.eq_zero_or_pos n with rfl | h0
    · rw [if_neg (by omega), show blen 0 = 0 from blenF_zero 64]
      rfl
    · have hlt : n < 18446744073709551616 := Nat.lt_of_lt_of_le h (Nat.pow_le_pow_right (n := 2) (by decide) hs)
      rw [if_pos (by omega), Int.tdiv_eq_ediv_of_nonneg (by omega), u64_same (by omega) (by omega), wrap_same (by omega) (by omega)]
      rw [Nat.pow_succ] at h
      rw [show (n : Int) / 2 = ((n / 2 : Nat) : Int) by omega, show (c : Int) + 1 = ((c + 1 : Nat) : Int) by omega]
      rw [ih (n / 2) (c + 1) F (by omega) (by omega) (by omega), blen_half h0 hlt]
      congr 2
      omega
theorem rWidth_f (k : Nat) (hk : 64 < k) (n : Nat) (hn : n < 18446744073709551616) : thrumref05_Width.f k (n : Int) = some (blen n : Int) := by
  have := rWidth_loop 64 n 0 (k - 65) hn (by omega) (by omega)
  rw [show k - 65 + 64 + 1 = k by omega, Nat.zero_add] at this
  exact this
theorem may_loop (w : Nat) (hw : w ≤ 32) (l : List Int) (hl : Words l) (hn : l.length ≤ maxLen) (d : Nat) : ∀ (k i : Nat), i + d = l.length → d + 66 ≤ k → ∃ e, thrumref05_may.l0 k (w : Int) l (l.length : Int) (i : Int) = some e ∧ (e = 0 ∨ e = 1) ∧ (e = 0 ↔ Fits w (l.drop i)) := by
  induction d with
  | zero =>
    intro k i hi hk
    obtain ⟨k, rfl⟩ : ∃ m, k = m + 1 := ⟨k - 1, by omega⟩
    refine ⟨0, ?_, .inl rfl, ?_⟩
    · simp only [thrumref05_may.l0]
      rw [if_neg (by omega)]
    · rw [List.drop_of_length_le (by omega)]
      refine ⟨fun _ x hx => ?_, fun _ => rfl⟩
      simp at hx
  | succ d ih =>
    intro k i hi hk
    obtain ⟨k, rfl⟩ : ∃ m, k = m + 1 := ⟨k - 1, by omega⟩
    obtain ⟨r0, r1⟩ := Words.rd hl i (by omega)
    simp only [thrumref05_may.l0]
    rw [if_pos (by omega), if_pos (by omega), if_pos (by omega), rd_drop l i (by omega)]
    obtain ⟨n, hx⟩ := Int.eq_ofNat_of_zero_le r0
    rw [hx] at r1 ⊢
    rw [rWidth_f k (by omega) n (by omega), bindS]
    by_cases h : n < 2 ^ w
    · have hb := (blen_iff (by omega) (by omega)).2 h
      rw [if_neg (by omega), wrap_next (by omega) (show (i : Int) < (l.length : Int) by omega) hn, show ((i : Int) + 1) = ((i + 1 : Nat) : Int) by omega]
      obtain ⟨e, h1, h2, h3⟩ := ih k (i + 1) (by omega) (by omega)
      refine ⟨e, h1, h2, h3.trans ⟨fun hh x hx => ?_, fun hh x hx => hh x (List.mem_cons_of_mem _ hx)⟩⟩
      rcases List.mem_cons.1 hx with rfl | hx
      · exact_mod_cast h
      · exact hh x hx
    · have hb : ¬ blen n ≤ w := fun e => h ((blen_iff (by omega) (by omega)).1 e)
      rw [if_pos (by omega)]
      refine ⟨1, rfl, .inr rfl, fun e => absurd e (by decide), fun hf => ?_⟩
      have := hf _ List.mem_cons_self
      exact (h (by exact_mod_cast this)).elim
theorem may_f (w : Int) (l : List Int) (hl : Words l) (hn : l.length ≤ 1000000) (k : Nat) (hk : 1000100 < k) :
    thrumref05_may.f k w l = some (if (bytesS w (l.length : Int)).2 = 0 then (open Classical in if Fits w.toNat l then 0 else 1) else (bytesS w (l.length : Int)).2) := by
  simp only [thrumref05_may.f]
  rw [rBytes_f k (by omega), bindS]
  by_cases hb : (bytesS w (l.length : Int)).2 = 0
  · rw [if_pos hb, if_pos hb]
    have hw : 0 ≤ w ∧ w ≤ 32 ∧ l.length ≤ 4096 := by
      unfold bytesS at hb
      split at hb
      · simp at hb
      · split at hb
        · simp at hb
        · omega
    obtain ⟨h0, h32, hm⟩ := hw
    obtain ⟨w, rfl⟩ := Int.eq_ofNat_of_zero_le h0
    obtain ⟨e, h1, h2, h3⟩ := may_loop w (by omega) l hl (by simp only [maxLen]; omega) l.length k 0 (by omega) (by omega)
    rw [show (0 : Int) = ((0 : Nat) : Int) from rfl, h1]
    congr 1
    rw [List.drop_zero] at h3
    by_cases hf : Fits w l
    · rw [if_pos (show Fits (w : Int).toNat l by simpa using hf)]
      exact h3.2 hf
    · rw [if_neg (show ¬ Fits (w : Int).toNat l by simpa using hf)]
      rcases h2 with h2 | h2
      · exact (hf (h3.1 h2)).elim
      · exact h2
  · rw [if_neg hb, if_neg hb]

/-! ### Bits into bytes, one behind the other -/
theorem add_bit : ∀ x : Nat, x < 256 → ∀ j : Nat, j < 8 → x.testBit (7 - j) = false → (((x : Int) + shr .u8 128 (j : Int)) % 256 = ((x ||| (true.toNat <<< (7 - j)) : Nat) : Int)) := by decide +kernel
theorem pack_loop (s : List Bool) (hs : s.length ≤ 1000000) (d : Nat) : ∀ (i F : Nat) (b : List Int), i + d = s.length → IsPack (fun q => decide (q < i) && s.getD q false) ((s.length + 7) / 8) b →
    ∃ b1, thrumref05_pack.l0 (F + d + 1) b s (s.length : Int) (i : Int) = some b1 ∧ IsPack (fun q => s.getD q false) ((s.length + 7) / 8) b1 := by
  induction d with
  | zero =>
    intro i F b hi hb
    refine ⟨b, ?_, hb.congr (fun q _ => ?_)⟩
    · simp only [thrumref05_pack.l0]
      rw [if_neg (by omega)]
    · by_cases h : q < i
      · simp [h]
      · rw [decide_eq_false h, List.getD_eq_getElem?_getD, List.getElem?_eq_none (by omega)]
        rfl
  | succ d ih =>
    intro i F b hi hb
    rw [show F + (d + 1) + 1 = (F + d + 1) + 1 by omega]
    simp only [thrumref05_pack.l0]
    rw [if_pos (by omega), if_pos (by omega), if_pos (by omega), wrap_same (i := (i : Int) + 1) (by omega) (by omega), show ((i : Int) + 1) = ((i + 1 : Nat) : Int) by omega]
    have hi8 : i < 8 * ((s.length + 7) / 8) := by omega
    have hz : pbit b i = false := by
      rw [hb.bit i hi8]
      simp
    have hs1 := (hb.set hi8 (s.getD i false)).congr (C := fun q => decide (q < i + 1) && s.getD q false) (fun q _ => by
      by_cases h : q = i
      · subst h
        simp
      · rw [if_neg h]
        by_cases h1 : q < i
        · rw [decide_eq_true h1, decide_eq_true (show q < i + 1 by omega)]
        · rw [decide_eq_false h1, decide_eq_false (show ¬ q < i + 1 by omega)])
    have hr : rdOf false s (i : Int) = s.getD i false := rfl
    rw [hr]
    by_cases hv : s.getD i false = true
    · have hl8 : i / 8 < b.length := by rw [hb.len]; omega
      obtain ⟨x0, x1⟩ := Bytes.rd hb.bytes (i / 8) hl8
      rw [if_pos hv, Int.tdiv_eq_ediv_of_nonneg (by omega), Int.tmod_eq_emod_of_nonneg (by omega), wrap_same (by omega) (by omega), show (i : Int) / 8 = ((i / 8 : Nat) : Int) by omega, show (i : Int) % 8 = ((i % 8 : Nat) : Int) by omega]
      rw [if_pos (by omega), if_pos (by omega), if_pos (by omega)]
      rw [hv] at hs1
      have e : b.set (((i / 8 : Nat) : Int)).toNat ((rd b ((i / 8 : Nat) : Int) + shr .u8 128 ((i % 8 : Nat) : Int)) % 256) = setb b i true := by
        unfold setb
        unfold pbit at hz
        obtain ⟨x, hx⟩ := Int.eq_ofNat_of_zero_le x0
        rw [hx] at hz x1 ⊢
        rw [Int.toNat_natCast] at hz
        rw [add_bit x (by omega) (i % 8) (by omega) hz, Int.toNat_natCast, Int.toNat_natCast]
      rw [e]
      exact ih (i + 1) F _ (by omega) hs1
    · rw [if_neg hv]
      have hv2 : s.getD i false = false := by simpa using hv
      refine ih (i + 1) F b (by omega) (hb.congr (fun q _ => ?_))
      by_cases h : q = i
      · subst h
        rw [hv2]
        simp
      · by_cases h1 : q < i
        · rw [decide_eq_true h1, decide_eq_true (show q < i + 1 by omega)]
        · rw [decide_eq_false h1, decide_eq_false (show ¬ q < i + 1 by omega)]
theorem pack_f (s : List Bool) (hs : s.length ≤ 1000000) (k : Nat) (hk : 1000000 < k) : ∃ b, thrumref05_pack.f k s = some b ∧ IsPack (fun q => s.getD q false) ((s.length + 7) / 8) b := by
  simp only [thrumref05_pack.f]
  rw [wrap_same (i := (s.length : Int) + 7) (by omega) (by omega), Int.tdiv_eq_ediv_of_nonneg (by omega), wrap_same (by omega) (by omega), show ((s.length : Int) + 7) / 8 = (((s.length + 7) / 8 : Nat) : Int) by omega]
  rw [if_pos (by omega), if_pos (by omega), Int.toNat_natCast]
  have := pack_loop s hs s.length 0 (k - s.length - 1) _ (by omega) ((IsPack.zeros _).congr (fun q _ => by simp))
  rw [show k - s.length - 1 + s.length + 1 = k by omega] at this
  exact this

/-! ### The document's Pack and Weave -/
theorem rPack_in (w : Nat) (hw : w ≤ 32) (l : List Int) (hl : Words l) (hn : l.length ≤ 4096) (i : Nat) (hi : i < l.length) (d : Nat) : ∀ (k F : Nat), k + d = w →
    thrumref05_Pack.l1 (F + d + 1) (w : Int) ((List.range (i * w + k)).map (sideB w l)) (rd l (i : Int)) ((w : Int) - 1 - (k : Int)) l (l.length : Int) (i : Int) = thrumref05_Pack.l0 F (w : Int) ((List.range ((i + 1) * w)).map (sideB w l)) l (l.length : Int) ((i + 1 : Nat) : Int) := by
  induction d with
  | zero =>
    intro k F hk
    obtain rfl : k = w := by omega
    simp only [thrumref05_Pack.l1]
    rw [if_neg (by omega), wrap_same (by omega) (by omega), Nat.add_mul, Nat.one_mul]
    rfl
  | succ d ih =>
    intro k F hk
    rw [← ih (k + 1) F (by omega)]
    have hlt := side_lt (w := w) (m := l.length) hi (show k < w by omega)
    have hwm := wm_nat hw hn
    rw [show F + (d + 1) + 1 = (F + d + 1) + 1 by omega, thrumref05_Pack.l1]
    rw [if_pos (by omega), if_pos (by omega), if_pos (by simp; omega)]
    obtain ⟨r0, r1⟩ := Words.rd hl i hi
    have e : (Int.tmod (shr .u64 (rd l (i : Int)) ((w : Int) - 1 - (k : Int))) 2 == 1) = sideB w l (i * w + k) := by
      rw [side_at hi (show k < w by omega)]
      obtain ⟨x, hx⟩ := Int.eq_ofNat_of_zero_le r0
      rw [hx, Int.toNat_natCast, show (w : Int) - 1 - (k : Int) = ((w - 1 - k : Nat) : Int) by omega]
      exact bit_mod x _ .u64 (by show w - 1 - k ≤ 64; omega)
    rw [e, wrap_same (by omega) (by omega)]
    rw [show i * w + (k + 1) = (i * w + k) + 1 by omega, List.range_succ, List.map_append, List.map_singleton]
    rw [show (w : Int) - 1 - (k : Int) - 1 = (w : Int) - 1 - ((k + 1 : Nat) : Int) by omega]
theorem rPack_loop (w : Nat) (hw : w ≤ 32) (l : List Int) (hl : Words l) (hn : l.length ≤ 4096) (d : Nat) : ∀ (i F : Nat), i + d = l.length → 1000000 < F →
    ∃ b, thrumref05_Pack.l0 (F + d * (w + 2) + 1) (w : Int) ((List.range (i * w)).map (sideB w l)) l (l.length : Int) (i : Int) = some (b, 0) ∧ IsPack (sideB w l) ((w * l.length + 7) / 8) b := by
  have hwm := wm_nat hw hn
  induction d with
  | zero =>
    intro i F hi hF
    obtain rfl : i = l.length := by omega
    rw [Nat.mul_comm l.length w]
    obtain ⟨b, h1, h2⟩ := pack_f ((List.range (w * l.length)).map (sideB w l)) (by simp; omega) (F + 0 * (w + 2)) (by omega)
    refine ⟨b, ?_, ?_⟩
    · simp only [thrumref05_Pack.l0]
      rw [if_neg (by omega), h1, bindS]
    · rw [List.length_map, List.length_range] at h2
      refine h2.congr (fun q _ => ?_)
      rw [List.getD_eq_getElem?_getD, List.getElem?_map]
      by_cases h : q < w * l.length
      · rw [List.getElem?_range h]
        rfl
      · rw [List.getElem?_eq_none (by simp; omega)]
        unfold sideB
        rw [decide_eq_false h]
        rfl
  | succ d ih =>
    intro i F hi hF
    obtain ⟨b, h1, h2⟩ := ih (i + 1) F (by omega) hF
    refine ⟨b, ?_, h2⟩
    have := rPack_in w hw l hl hn i (by omega) w 0 (F + d * (w + 2) + 1) (by omega)
    rw [Nat.add_zero, h1] at this
    rw [← this, show F + (d + 1) * (w + 2) + 1 = ((F + d * (w + 2) + 1) + w + 1) + 1 by rw [Nat.add_mul]; omega, thrumref05_Pack.l0]
    rw [if_pos (by omega), if_pos (by omega), if_pos (by omega), wrap_same (by omega) (by omega)]
    simp
theorem rWeave_in (w : Nat) (hw : w ≤ 32) (l : List Int) (hl : Words l) (hn : l.length ≤ 4096) (k : Nat) (hk : k < w) (d : Nat) : ∀ (i F : Nat), i + d = l.length →
    thrumref05_Weave.l1 (F + d + 1) l ((List.range (k * l.length + i)).map (wovenB w l)) ((w : Int) - 1 - (k : Int)) l (l.length : Int) (i : Int) = thrumref05_Weave.l0 F l ((List.range ((k + 1) * l.length)).map (wovenB w l)) ((w : Int) - 1 - ((k + 1 : Nat) : Int)) := by
  induction d with
  | zero =>
    intro i F hi
    obtain rfl : i = l.length := by omega
    simp only [thrumref05_Weave.l1]
    rw [if_neg (by omega), wrap_same (by omega) (by omega), Nat.add_mul, Nat.one_mul]
    rw [show (w : Int) - 1 - (k : Int) - 1 = (w : Int) - 1 - ((k + 1 : Nat) : Int) by omega]
  | succ d ih =>
    intro i F hi
    rw [← ih (i + 1) F (by omega)]
    have hlt := woven_lt (w := w) (m := l.length) (show i < l.length by omega) hk
    have hwm := wm_nat hw hn
    rw [show F + (d + 1) + 1 = (F + d + 1) + 1 by omega, thrumref05_Weave.l1]
    rw [if_pos (by omega), if_pos (by omega), if_pos (by omega), if_pos (by omega), if_pos (by simp; omega)]
    obtain ⟨r0, r1⟩ := Words.rd hl i (by omega)
    have e : (Int.tmod (shr .u64 (rd l (i : Int)) ((w : Int) - 1 - (k : Int))) 2 == 1) = wovenB w l (k * l.length + i) := by
      rw [woven_at (show i < l.length by omega) hk]
      obtain ⟨x, hx⟩ := Int.eq_ofNat_of_zero_le r0
      rw [hx, Int.toNat_natCast, show (w : Int) - 1 - (k : Int) = ((w - 1 - k : Nat) : Int) by omega]
      exact bit_mod x _ .u64 (by show w - 1 - k ≤ 64; omega)
    rw [e, wrap_same (by omega) (by omega)]
    rw [show k * l.length + (i + 1) = (k * l.length + i) + 1 by omega, List.range_succ, List.map_append, List.map_singleton]
    rfl
theorem rWeave_loop (w : Nat) (hw : w ≤ 32) (l : List Int) (hl : Words l) (hn : l.length ≤ 4096) (d : Nat) : ∀ (k F : Nat), k + d = w → 1000000 < F →
    ∃ b, thrumref05_Weave.l0 (F + d * (l.length + 2) + 1) l ((List.range (k * l.length)).map (wovenB w l)) ((w : Int) - 1 - (k : Int)) = some (b, 0) ∧ IsPack (wovenB w l) ((w * l.length + 7) / 8) b := by
  have hwm := wm_nat hw hn
  induction d with
  | zero =>
    intro k F hk hF
    obtain rfl : k = w := by omega
    obtain ⟨b, h1, h2⟩ := pack_f ((List.range (k * l.length)).map (wovenB k l)) (by simp; omega) (F + 0 * (l.length + 2)) (by omega)
    refine ⟨b, ?_, ?_⟩
    · simp only [thrumref05_Weave.l0]
      rw [if_neg (by omega), h1, bindS]
    · rw [List.length_map, List.length_range] at h2
      refine h2.congr (fun q _ => ?_)
      rw [List.getD_eq_getElem?_getD, List.getElem?_map]
      by_cases h : q < k * l.length
      · rw [List.getElem?_range h]
        rfl
      · rw [List.getElem?_eq_none (by simp; omega)]
        unfold wovenB
        rw [decide_eq_false h]
        rfl
  | succ d ih =>
    intro k F hk hF
    obtain ⟨b, h1, h2⟩ := ih (k + 1) F (by omega) hF
    refine ⟨b, ?_, h2⟩
    have := rWeave_in w hw l hl hn k (by omega) l.length 0 (F + d * (l.length + 2) + 1) (by omega)
    rw [Nat.add_zero, h1] at this
    rw [← this, show F + (d + 1) * (l.length + 2) + 1 = ((F + d * (l.length + 2) + 1) + l.length + 1) + 1 by rw [Nat.add_mul]; omega, thrumref05_Weave.l0]
    rw [if_pos (by omega)]
    rfl
theorem bytesS_ok {w : Int} {l : List Int} (hb : (bytesS w (l.length : Int)).2 = 0) : 0 ≤ w ∧ w ≤ 32 ∧ l.length ≤ 4096 := by
  unfold bytesS at hb
  split at hb
  · simp at hb
  · split at hb
    · simp at hb
    · omega
theorem rPack_f (w : Int) (l : List Int) (hl : Words l) (hn : l.length ≤ 1000000) (k : Nat) (hk : 2000000 < k) :
    (∃ e, e ≠ 0 ∧ thrumref05_Pack.f k w l = some ([], e) ∧ e = (if (bytesS w (l.length : Int)).2 = 0 then 1 else (bytesS w (l.length : Int)).2) ∧ ((bytesS w (l.length : Int)).2 = 0 → ¬ Fits w.toNat l)) ∨
    (∃ b, thrumref05_Pack.f k w l = some (b, 0) ∧ (bytesS w (l.length : Int)).2 = 0 ∧ Fits w.toNat l ∧ IsPack (sideB w.toNat l) ((w.toNat * l.length + 7) / 8) b) := by
  simp only [thrumref05_Pack.f]
  rw [may_f w l hl hn k (by omega), bindS]
  by_cases hb : (bytesS w (l.length : Int)).2 = 0
  · obtain ⟨h0, h32, hm⟩ := bytesS_ok hb
    obtain ⟨w, rfl⟩ := Int.eq_ofNat_of_zero_le h0
    rw [if_pos hb]
    by_cases hf : Fits (w : Int).toNat l
    · refine .inr ?_
      rw [if_pos hf, if_pos rfl]
      have hle : l.length * (w + 2) ≤ 4096 * 34 := Nat.mul_le_mul hm (by omega)
      obtain ⟨b, h1, h2⟩ := rPack_loop w (by omega) l hl hm l.length 0 (k - (l.length * (w + 2) + 1)) (by omega) (by omega)
      rw [show k - (l.length * (w + 2) + 1) + l.length * (w + 2) + 1 = k by omega] at h1
      simp only [Nat.zero_mul, List.range_zero, List.map_nil] at h1
      exact ⟨b, h1, hb, hf, h2⟩
    · rw [if_neg hf, if_neg (by decide)]
      exact .inl ⟨1, by decide, rfl, by rw [if_pos hb], fun _ => hf⟩
  · rw [if_neg hb, if_neg hb]
    exact .inl ⟨_, hb, rfl, by rw [if_neg hb], fun h => (hb h).elim⟩
theorem rWeave_f (w : Int) (l : List Int) (hl : Words l) (hn : l.length ≤ 1000000) (k : Nat) (hk : 2000000 < k) :
    (∃ e, e ≠ 0 ∧ thrumref05_Weave.f k w l = some ([], e) ∧ e = (if (bytesS w (l.length : Int)).2 = 0 then 1 else (bytesS w (l.length : Int)).2) ∧ ((bytesS w (l.length : Int)).2 = 0 → ¬ Fits w.toNat l)) ∨
    (∃ b, thrumref05_Weave.f k w l = some (b, 0) ∧ (bytesS w (l.length : Int)).2 = 0 ∧ Fits w.toNat l ∧ IsPack (wovenB w.toNat l) ((w.toNat * l.length + 7) / 8) b) := by
  simp only [thrumref05_Weave.f]
  rw [may_f w l hl hn k (by omega), bindS]
  by_cases hb : (bytesS w (l.length : Int)).2 = 0
  · obtain ⟨h0, h32, hm⟩ := bytesS_ok hb
    obtain ⟨w, rfl⟩ := Int.eq_ofNat_of_zero_le h0
    rw [if_pos hb]
    by_cases hf : Fits (w : Int).toNat l
    · refine .inr ?_
      rw [if_pos hf, if_pos rfl, wrap_same (by omega) (by omega)]
      have hle : w * (l.length + 2) ≤ 32 * 4098 := Nat.mul_le_mul (by omega) (by omega)
      obtain ⟨b, h1, h2⟩ := rWeave_loop w (by omega) l hl hm w 0 (k - (w * (l.length + 2) + 1)) (by omega) (by omega)
      rw [show k - (w * (l.length + 2) + 1) + w * (l.length + 2) + 1 = k by omega] at h1
      simp only [Nat.zero_mul, List.range_zero, List.map_nil] at h1
      rw [show (w : Int) - 1 - ((0 : Nat) : Int) = (w : Int) - 1 by omega] at h1
      exact ⟨b, h1, hb, hf, h2⟩
    · rw [if_neg hf, if_neg (by decide)]
      exact .inl ⟨1, by decide, rfl, by rw [if_pos hb], fun _ => hf⟩
  · rw [if_neg hb, if_neg hb]
    exact .inl ⟨_, hb, rfl, by rw [if_neg hb], fun h => (hb h).elim⟩
end Go.Proofs.Ytlppmamhbpcfcaa.PlaneEq
