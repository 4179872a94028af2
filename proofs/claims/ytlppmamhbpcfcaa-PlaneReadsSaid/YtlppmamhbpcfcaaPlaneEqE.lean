/- What the document's taking comes to, signs read by both, and lists compared; conditions: widths to 32, texts of at most 100000 bytes. -/
import Derived.Test.YtlppmamhbpcfcaaPE
import Derived.Test.YtlppmamhbpcfcaaPF
import Derived.Test.YtlppmamhbpcfcaaPlaneEqD
namespace Go.Proofs.Ytlppmamhbpcfcaa.PlaneEq
open Go.RowKit Go.Proofs.Ytlppmamhbpcfcaa.MPl Go.Proofs.Ytlppmamhbpcfcaa.Plain Go.Proofs.Ytlppmamhbpcfcaa.PlaneBits Go.Proofs.YtlppmamhbpcfcaaW.PrintWords Go.Proofs.YtlppmamhbpcfcaaW.PrintLast Go.Proofs.YtlppmamhbpcfcaaW.PrintMore
set_option linter.unusedVariables false
set_option linter.unusedSimpArgs false

/-- A text's first n bits. -/
def bitsS (b : List Int) (n : Nat) : List Bool := (List.range n).map (pbit b)
theorem bitsS_length (b : List Int) (n : Nat) : (bitsS b n).length = n := by simp [bitsS]
theorem bitsS_succ (b : List Int) (n : Nat) : bitsS b (n + 1) = bitsS b n ++ [pbit b n] := by simp [bitsS, List.range_succ]
theorem bitsS_get (b : List Int) (n i : Nat) (h : i < n) : (bitsS b n).getD i false = pbit b i := by simp [bitsS, List.getD_eq_getElem?_getD, h]
theorem bitsS_take (b : List Int) (n m : Nat) (h : m ≤ n) : (bitsS b n).take m = bitsS b m := by
  unfold bitsS
  rw [← List.map_take, List.take_range, Nat.min_eq_left h]
theorem bits_in (w m : Int) (b : List Int) (hb : Bytes b) (hn : b.length ≤ 100000) (i : Nat) (hi : i < b.length) (d : Nat) : ∀ (kk F : Nat), kk + d = 8 →
    thrumref05_bits.l1 (F + d + 1) w m (bitsS b (8 * i + kk)) (rd b (i : Int)) (7 - (kk : Int)) b (b.length : Int) (i : Int) = thrumref05_bits.l0 F w m (bitsS b (8 * (i + 1))) b (b.length : Int) ((i + 1 : Nat) : Int) := by
  induction d with
  | zero =>
    intro kk F hk
    obtain rfl : kk = 8 := by omega
    rw [thrumref05_bits.l1, if_neg (by omega), next_at i (by omega)]
    rfl
  | succ d ih =>
    intro kk F hk
    rw [← ih (kk + 1) F (by omega), show F + (d + 1) + 1 = (F + d + 1) + 1 by omega, thrumref05_bits.l1]
    obtain ⟨x0, x1⟩ := Bytes.rd hb i hi
    have e : (Int.tmod (shr .u8 (rd b (i : Int)) (7 - (kk : Int))) 2 == 1) = pbit b (8 * i + kk) := by
      unfold pbit
      rw [show (8 * i + kk) / 8 = i by omega, show 7 - (8 * i + kk) % 8 = 7 - kk by omega]
      obtain ⟨x, hx⟩ := Int.eq_ofNat_of_zero_le x0
      rw [hx, Int.toNat_natCast, show (7 : Int) - (kk : Int) = ((7 - kk : Nat) : Int) by omega]
      exact bit_mod x _ .u8 (by show 7 - kk ≤ 8; omega)
    rw [if_pos (by omega), if_pos (by omega), if_pos (by rw [bitsS_length]; omega), e, ← bitsS_succ, wrap_same (by omega) (by omega), show (7 : Int) - (kk : Int) - 1 = 7 - ((kk + 1 : Nat) : Int) by omega]
    rfl
theorem bits_last (w m : Int) (X y : List Bool) (hy : y.length ≤ 1000000) (hw0 : 0 ≤ wrap64 (w * m)) (hw1 : wrap64 (w * m) ≤ (X.length : Int)) (d : Nat) : ∀ (i F : Nat), i + d = y.length →
    ((∀ j, i ≤ j → j < y.length → y.getD j false = false) → thrumref05_bits.l2 (F + d + 1) w m X y (y.length : Int) (i : Int) = some (X.take (wrap64 (w * m)).toNat, 0)) ∧
    (¬ (∀ j, i ≤ j → j < y.length → y.getD j false = false) → thrumref05_bits.l2 (F + d + 1) w m X y (y.length : Int) (i : Int) = some ([], 6)) := by
  induction d with
  | zero =>
    intro i F hi
    refine ⟨fun _ => ?_, fun h => (h (fun j h1 h2 => by omega)).elim⟩
    rw [thrumref05_bits.l2, if_neg (by omega), if_pos hw0, if_pos hw1]
  | succ d ih =>
    intro i F hi
    rw [show F + (d + 1) + 1 = (F + d + 1) + 1 by omega, thrumref05_bits.l2]
    rw [if_pos (by omega), if_pos (by omega), if_pos (by omega), next_at i (by omega)]
    have hr : rdOf false y (i : Int) = y.getD i false := rfl
    rw [hr]
    obtain ⟨h1, h2⟩ := ih (i + 1) F (by omega)
    by_cases h : y.getD i false = true
    · rw [if_pos h]
      refine ⟨fun hh => ?_, fun _ => rfl⟩
      rw [hh i (Nat.le_refl _) (by omega)] at h
      exact absurd h (by decide)
    · rw [if_neg h]
      have hf : y.getD i false = false := by simpa using h
      refine ⟨fun hh => h1 (fun j j1 j2 => hh j (by omega) j2), fun hh => h2 (fun hc => hh (fun j j1 j2 => ?_))⟩
      by_cases hj : j = i
      · rw [hj]
        exact hf
      · exact hc j (by omega) j2
theorem bits_loop (w m : Int) (b : List Int) (hb : Bytes b) (hn : b.length ≤ 100000) (d : Nat) : ∀ (i F : Nat), i + d = b.length →
    thrumref05_bits.l0 (F + d * 10 + 1) w m (bitsS b (8 * i)) b (b.length : Int) (i : Int) = (if 0 ≤ (wrap64 (w * m)) then (if (wrap64 (w * m)) ≤ (((bitsS b (8 * b.length)).length : Nat) : Int) then (thrumref05_bits.l2 F w m (bitsS b (8 * b.length)) ((bitsS b (8 * b.length)).drop (wrap64 (w * m)).toNat) (((bitsS b (8 * b.length)).drop (wrap64 (w * m)).toNat).length : Int) 0) else none) else none) := by
  induction d with
  | zero =>
    intro i F hi
    obtain rfl : i = b.length := by omega
    rw [thrumref05_bits.l0, if_neg (by omega)]
    simp only [bindS]
  | succ d ih =>
    intro i F hi
    rw [← ih (i + 1) F (by omega)]
    have := bits_in w m b hb hn i (by omega) 8 0 (F + d * 10 + 1) (by omega)
    rw [← this, show F + (d + 1) * 10 + 1 = ((F + d * 10 + 1) + 8 + 1) + 1 by omega, thrumref05_bits.l0, if_pos (by omega), if_pos (by omega), if_pos (by omega)]
    rfl
theorem bits_f (w m : Int) (b : List Int) (hb : Bytes b) (hn : b.length ≤ 100000) (k : Nat) (hk : 3000000 < k) :
    (OkT w m b → thrumref05_bits.f k w m b = some (bitsS b (w.toNat * m.toNat), 0)) ∧ (¬ OkT w m b → thrumref05_bits.f k w m b = some ([], errT w m b)) := by
  simp only [thrumref05_bits.f]
  rw [rBytes_f k (by omega), bindS]
  unfold errT
  by_cases he : (bytesS w m).2 = 0
  · rw [if_pos he, if_pos he]
    by_cases hl : (b.length : Int) = (bytesS w m).1
    · rw [if_pos hl, if_pos hl]
      obtain ⟨w0, w1, m0, m1, e⟩ := bytesS_ok2 he
      have hok : OkT w m b ↔ Clean w.toNat m.toNat b := ⟨fun h => h.c, fun h => ⟨he, hl, h⟩⟩
      rw [e] at hl
      rw [hok]
      clear hok he e
      obtain ⟨w, rfl⟩ := Int.eq_ofNat_of_zero_le w0
      obtain ⟨m, rfl⟩ := Int.eq_ofNat_of_zero_le m0
      rw [Int.toNat_natCast, Int.toNat_natCast]
      have hwm := wm_nat (w := w) (m := m) (by omega) (by omega)
      have hln : b.length = (w * m + 7) / 8 := by
        rw [← Int.natCast_mul] at hl
        omega
      have hle : w * m ≤ 8 * b.length := by omega
      have hsum := bits_loop (w : Int) (m : Int) b hb hn b.length 0 (k - (b.length * 10 + 1)) (by omega)
      have hkk : k - (b.length * 10 + 1) + b.length * 10 + 1 = k := by omega
      rw [hkk] at hsum
      have ew : wrap64 ((w : Int) * (m : Int)) = ((w * m : Nat) : Int) := by
        rw [← Int.natCast_mul]
        exact wrap_same (by omega) (by omega)
      rw [ew, bitsS_length, if_pos (Int.natCast_nonneg _), if_pos (Int.ofNat_le.mpr hle), Int.toNat_natCast] at hsum
      have hX : (((bitsS b (8 * b.length)).drop (w * m)).length) = 8 * b.length - w * m := by rw [List.length_drop, bitsS_length]
      obtain ⟨h1, h2⟩ := bits_last (w : Int) (m : Int) (bitsS b (8 * b.length)) ((bitsS b (8 * b.length)).drop (w * m)) (by omega) (by rw [ew]; exact Int.natCast_nonneg _) (by rw [ew, bitsS_length]; exact Int.ofNat_le.mpr hle) _ 0 (k - (b.length * 10 + 1) - (8 * b.length - w * m) - 1) (by rw [Nat.zero_add])
      rw [show k - (b.length * 10 + 1) - (8 * b.length - w * m) - 1 + ((bitsS b (8 * b.length)).drop (w * m)).length + 1 = k - (b.length * 10 + 1) by omega, ew, Int.toNat_natCast, bitsS_take b _ _ hle] at h1
      rw [show k - (b.length * 10 + 1) - (8 * b.length - w * m) - 1 + ((bitsS b (8 * b.length)).drop (w * m)).length + 1 = k - (b.length * 10 + 1) by omega] at h2
      have hc : (∀ j, 0 ≤ j → j < ((bitsS b (8 * b.length)).drop (w * m)).length → ((bitsS b (8 * b.length)).drop (w * m)).getD j false = false) ↔ Clean w m b := by
        constructor
        · intro h q q1 q2
          have := h (q - w * m) (by omega) (by omega)
          rw [List.getD_eq_getElem?_getD, List.getElem?_drop, show w * m + (q - w * m) = q by omega, ← List.getD_eq_getElem?_getD, bitsS_get b _ q q2] at this
          exact this
        · intro h j _ j2
          rw [List.getD_eq_getElem?_getD, List.getElem?_drop, ← List.getD_eq_getElem?_getD, bitsS_get b _ _ (by omega)]
          exact h _ (by omega) (by omega)
      rw [hc] at h1 h2
      exact ⟨fun h => hsum.trans (h1 h), fun h => hsum.trans (h2 h)⟩
    · rw [if_neg hl, if_neg hl]
      exact ⟨fun h => (hl h.n).elim, fun _ => rfl⟩
  · rw [if_neg he, if_neg he]
    exact ⟨fun h => (he h.e).elim, fun _ => rfl⟩
theorem St.two {P : Nat → Nat → Nat} {w m : Nat} {b : List Int} {i k : Nat} {x : List Int} (h : St P w m b i k x) (hi : i < m) : rd (x.set i (2 * (numS (fun k => pbit b (P i k)) k : Int))) (i : Int) = 2 * (numS (fun k => pbit b (P i k)) k : Int) := by
  rw [rd_set _ _ _ _ (by rw [h.len]; exact hi), if_pos rfl]
theorem rUnpack_in (w m : Nat) (hw : w ≤ 32) (hm : m ≤ 4096) (b : List Int) (i : Nat) (hi : i < m) (d : Nat) : ∀ (k : Nat) (x : List Int), k + d = w → St (sideP w) w m b i k x →
    ∃ x1, St (sideP w) w m b i w x1 ∧ ∀ F : Nat, thrumref05_Unpack.l1 (F + d + 1) (w : Int) (bitsS b (w * m)) x (i : Int) (m : Int) (i : Int) (w : Int) (k : Int) = thrumref05_Unpack.l0 F (w : Int) (bitsS b (w * m)) x1 (m : Int) ((i + 1 : Nat) : Int) := by
  induction d with
  | zero =>
    intro k x hk hx
    obtain rfl : k = w := by omega
    refine ⟨x, hx, fun F => ?_⟩
    rw [thrumref05_Unpack.l1, if_neg (by omega), next_at i (by omega)]
  | succ d ih =>
    intro k x hk hx
    have hkw : k < w := by omega
    have hkd : k + 1 + d = w := by omega
    have hlt : i * w + k < w * m := side_lt (w := w) (m := m) hi hkw
    have hwm := wm_nat hw hm
    have hk1 : k < 1000000 := by omega
    have hxi := hx.val i hi
    rw [if_neg (Nat.lt_irrefl i), if_pos rfl] at hxi
    have hk32 : numS (fun k => pbit b (sideP w i k)) k < 4294967296 := Nat.lt_of_lt_of_le (numS_lt _ k) (Nat.pow_le_pow_right (n := 2) (by decide) (Nat.le_trans (Nat.le_of_lt hkw) hw))
    obtain ⟨x1, h1, h2⟩ := ih (k + 1) _ hkd (hx.step hi ((2 * numS (fun k => pbit b (sideP w i k)) k + (pbit b (i * w + k)).toNat : Nat) : Int) rfl)
    refine ⟨x1, h1, fun F => ?_⟩
    rw [← h2 F]
    rw [show F + (d + 1) + 1 = (F + d + 1) + 1 by omega, thrumref05_Unpack.l1]
    have e0 : (i : Int) * (w : Int) = ((i * w : Nat) : Int) := by rw [Int.natCast_mul]
    have hsm : i * w + k < 1000000 := Nat.lt_of_lt_of_le hlt (Nat.le_trans hwm (by decide))
    have e1 : wrap64 (wrap64 ((i : Int) * (w : Int)) + (k : Int)) = ((i * w + k : Nat) : Int) := by
      rw [e0]
      exact place_at _ _ hsm
    have hlen := hx.len
    have c1 : (k : Int) < (w : Int) := Int.ofNat_lt.mpr hkw
    have c2 : (i : Int) < (x.length : Int) := by
      rw [hlen]
      exact Int.ofNat_lt.mpr hi
    have c3 : ((i * w + k : Nat) : Int) < ((bitsS b (w * m)).length : Int) := by
      rw [bitsS_length]
      exact Int.ofNat_lt.mpr hlt
    have hr : rdOf false (bitsS b (w * m)) ((i * w + k : Nat) : Int) = pbit b (i * w + k) := bitsS_get b _ _ hlt
    have e2 : IntKind.u64.wrap (rd x (i : Int) * 2) = 2 * (numS (fun k => pbit b (sideP w i k)) k : Int) := by
      rw [hxi]
      generalize numS (fun k => pbit b (sideP w i k)) k = v at hk32 ⊢
      rw [u64_same (by omega) (by omega)]
      omega
    have e5 := hx.two hi
    rw [e1, e2]
    simp only [bindS]
    rw [if_pos c1, if_pos (Int.natCast_nonneg _), if_pos c2, if_pos (Int.natCast_nonneg _), if_pos c3, next_at k hk1, Int.toNat_natCast, hr, e5, List.set_set]
    generalize numS (fun k => pbit b (sideP w i k)) k = v at hk32 ⊢
    cases pbit b (i * w + k)
    · rw [if_neg (show ¬ (false = true) from Bool.false_ne_true), show ((2 * v + false.toNat : Nat) : Int) = 2 * (v : Int) by simp]
    · rw [if_pos rfl, u64_same (by omega) (by omega), show ((2 * v + true.toNat : Nat) : Int) = 2 * (v : Int) + 1 by simp]
theorem rUnpack_loop (w m : Nat) (hw : w ≤ 32) (hm : m ≤ 4096) (b : List Int) (d : Nat) : ∀ (i : Nat) (x : List Int), i + d = m → St (sideP w) w m b i 0 x →
    ∀ F : Nat, thrumref05_Unpack.l0 (F + d * (w + 2) + 1) (w : Int) (bitsS b (w * m)) x (m : Int) (i : Int) = some (valsS (sideP w) w m b, 0) := by
  induction d with
  | zero =>
    intro i x hi hx F
    obtain rfl : i = m := by omega
    rw [thrumref05_Unpack.l0, if_neg (by omega), hx.done]
  | succ d ih =>
    intro i x hi hx F
    obtain ⟨x1, h1, h2⟩ := rUnpack_in w m hw hm b i (by omega) w 0 x (by omega) hx
    have h4 := ih (i + 1) x1 (by omega) h1.next F
    rw [show F + (d + 1) * (w + 2) + 1 = ((F + d * (w + 2) + 1) + w + 1) + 1 by rw [Nat.add_mul]; omega, thrumref05_Unpack.l0]
    rw [if_pos (by omega)]
    have := h2 (F + d * (w + 2) + 1)
    rw [h4] at this
    exact this
theorem rUnpack_f (w m : Int) (b : List Int) (hb : Bytes b) (hn : b.length ≤ 100000) (k : Nat) (hk : 3000000 < k) :
    (OkT w m b → thrumref05_Unpack.f k w m b = some (valsS (sideP w.toNat) w.toNat m.toNat b, 0)) ∧ (¬ OkT w m b → thrumref05_Unpack.f k w m b = some ([], errT w m b)) := by
  obtain ⟨h1, h2⟩ := bits_f w m b hb hn k hk
  simp only [thrumref05_Unpack.f]
  constructor
  · intro h
    obtain ⟨w0, w1, m0, m1, e⟩ := bytesS_ok2 h.e
    rw [h1 h, bindS, if_pos rfl]
    clear h1 h2 h e
    obtain ⟨w, rfl⟩ := Int.eq_ofNat_of_zero_le w0
    obtain ⟨m, rfl⟩ := Int.eq_ofNat_of_zero_le m0
    rw [if_pos (by omega), if_pos (by omega), bindS, Int.toNat_natCast, Int.toNat_natCast, List.length_replicate]
    have hle : m * (w + 2) ≤ 4096 * 34 := Nat.mul_le_mul (by omega) (by omega)
    have := rUnpack_loop w m (by omega) (by omega) b m 0 _ (by omega) (St.start _ _ _ _) (k - (m * (w + 2) + 1))
    rw [show k - (m * (w + 2) + 1) + m * (w + 2) + 1 = k by omega] at this
    exact this
  · intro h
    rw [h2 h, bindS, if_neg errT_ne]
theorem rUnweave_in (w m : Nat) (hw : w ≤ 32) (hm : m ≤ 4096) (b : List Int) (i : Nat) (hi : i < m) (d : Nat) : ∀ (k : Nat) (x : List Int), k + d = w → St (wovenP m) w m b i k x →
    ∃ x1, St (wovenP m) w m b i w x1 ∧ ∀ F : Nat, thrumref05_Unweave.l1 (F + d + 1) (w : Int) (m : Int) (bitsS b (w * m)) x (i : Int) (m : Int) (i : Int) (w : Int) (k : Int) = thrumref05_Unweave.l0 F (w : Int) (m : Int) (bitsS b (w * m)) x1 (m : Int) ((i + 1 : Nat) : Int) := by
  induction d with
  | zero =>
    intro k x hk hx
    obtain rfl : k = w := by omega
    refine ⟨x, hx, fun F => ?_⟩
    rw [thrumref05_Unweave.l1, if_neg (by omega), next_at i (by omega)]
  | succ d ih =>
    intro k x hk hx
    have hkw : k < w := by omega
    have hkd : k + 1 + d = w := by omega
    have hlt : k * m + i < w * m := woven_lt (w := w) (m := m) hi hkw
    have hwm := wm_nat hw hm
    have hk1 : k < 1000000 := by omega
    have hxi := hx.val i hi
    rw [if_neg (Nat.lt_irrefl i), if_pos rfl] at hxi
    have hk32 : numS (fun k => pbit b (wovenP m i k)) k < 4294967296 := Nat.lt_of_lt_of_le (numS_lt _ k) (Nat.pow_le_pow_right (n := 2) (by decide) (Nat.le_trans (Nat.le_of_lt hkw) hw))
    obtain ⟨x1, h1, h2⟩ := ih (k + 1) _ hkd (hx.step hi ((2 * numS (fun k => pbit b (wovenP m i k)) k + (pbit b (k * m + i)).toNat : Nat) : Int) rfl)
    refine ⟨x1, h1, fun F => ?_⟩
    rw [← h2 F]
    rw [show F + (d + 1) + 1 = (F + d + 1) + 1 by omega, thrumref05_Unweave.l1]
    have e0 : (k : Int) * (m : Int) = ((k * m : Nat) : Int) := by rw [Int.natCast_mul]
    have hsm : k * m + i < 1000000 := Nat.lt_of_lt_of_le hlt (Nat.le_trans hwm (by decide))
    have e1 : wrap64 (wrap64 ((k : Int) * (m : Int)) + (i : Int)) = ((k * m + i : Nat) : Int) := by
      rw [e0]
      exact place_at _ _ hsm
    have hlen := hx.len
    have c1 : (k : Int) < (w : Int) := Int.ofNat_lt.mpr hkw
    have c2 : (i : Int) < (x.length : Int) := by
      rw [hlen]
      exact Int.ofNat_lt.mpr hi
    have c3 : ((k * m + i : Nat) : Int) < ((bitsS b (w * m)).length : Int) := by
      rw [bitsS_length]
      exact Int.ofNat_lt.mpr hlt
    have hr : rdOf false (bitsS b (w * m)) ((k * m + i : Nat) : Int) = pbit b (k * m + i) := bitsS_get b _ _ hlt
    have e2 : IntKind.u64.wrap (rd x (i : Int) * 2) = 2 * (numS (fun k => pbit b (wovenP m i k)) k : Int) := by
      rw [hxi]
      generalize numS (fun k => pbit b (wovenP m i k)) k = v at hk32 ⊢
      rw [u64_same (by omega) (by omega)]
      omega
    have e5 := hx.two hi
    rw [e1, e2]
    simp only [bindS]
    rw [if_pos c1, if_pos (Int.natCast_nonneg _), if_pos c2, if_pos (Int.natCast_nonneg _), if_pos c3, next_at k hk1, Int.toNat_natCast, hr, e5, List.set_set]
    generalize numS (fun k => pbit b (wovenP m i k)) k = v at hk32 ⊢
    cases pbit b (k * m + i)
    · rw [if_neg (show ¬ (false = true) from Bool.false_ne_true), show ((2 * v + false.toNat : Nat) : Int) = 2 * (v : Int) by simp]
    · rw [if_pos rfl, u64_same (by omega) (by omega), show ((2 * v + true.toNat : Nat) : Int) = 2 * (v : Int) + 1 by simp]
theorem rUnweave_loop (w m : Nat) (hw : w ≤ 32) (hm : m ≤ 4096) (b : List Int) (d : Nat) : ∀ (i : Nat) (x : List Int), i + d = m → St (wovenP m) w m b i 0 x →
    ∀ F : Nat, thrumref05_Unweave.l0 (F + d * (w + 2) + 1) (w : Int) (m : Int) (bitsS b (w * m)) x (m : Int) (i : Int) = some (valsS (wovenP m) w m b, 0) := by
  induction d with
  | zero =>
    intro i x hi hx F
    obtain rfl : i = m := by omega
    rw [thrumref05_Unweave.l0, if_neg (by omega), hx.done]
  | succ d ih =>
    intro i x hi hx F
    obtain ⟨x1, h1, h2⟩ := rUnweave_in w m hw hm b i (by omega) w 0 x (by omega) hx
    have h4 := ih (i + 1) x1 (by omega) h1.next F
    rw [show F + (d + 1) * (w + 2) + 1 = ((F + d * (w + 2) + 1) + w + 1) + 1 by rw [Nat.add_mul]; omega, thrumref05_Unweave.l0]
    rw [if_pos (by omega)]
    have := h2 (F + d * (w + 2) + 1)
    rw [h4] at this
    exact this
theorem rUnweave_f (w m : Int) (b : List Int) (hb : Bytes b) (hn : b.length ≤ 100000) (k : Nat) (hk : 3000000 < k) :
    (OkT w m b → thrumref05_Unweave.f k w m b = some (valsS (wovenP m.toNat) w.toNat m.toNat b, 0)) ∧ (¬ OkT w m b → thrumref05_Unweave.f k w m b = some ([], errT w m b)) := by
  obtain ⟨h1, h2⟩ := bits_f w m b hb hn k hk
  simp only [thrumref05_Unweave.f]
  constructor
  · intro h
    obtain ⟨w0, w1, m0, m1, e⟩ := bytesS_ok2 h.e
    rw [h1 h, bindS, if_pos rfl]
    clear h1 h2 h e
    obtain ⟨w, rfl⟩ := Int.eq_ofNat_of_zero_le w0
    obtain ⟨m, rfl⟩ := Int.eq_ofNat_of_zero_le m0
    rw [if_pos (by omega), if_pos (by omega), bindS, Int.toNat_natCast, Int.toNat_natCast, List.length_replicate]
    have hle : m * (w + 2) ≤ 4096 * 34 := Nat.mul_le_mul (by omega) (by omega)
    have := rUnweave_loop w m (by omega) (by omega) b m 0 _ (by omega) (St.start _ _ _ _) (k - (m * (w + 2) + 1))
    rw [show k - (m * (w + 2) + 1) + m * (w + 2) + 1 = k by omega] at this
    exact this
  · intro h
    rw [h2 h, bindS, if_neg errT_ne]

/-! ### Signs read -/
theorem rRead_f (m : Int) (b : List Int) (hb : Bytes b) (hn : b.length ≤ 100000) (k : Nat) (hk : 3000000 < k) :
    (OkT 1 m b → thrumref05_Read.f k m b = some (bitsS b m.toNat, 0)) ∧ (¬ OkT 1 m b → thrumref05_Read.f k m b = some ([], errT 1 m b)) := by
  obtain ⟨h1, h2⟩ := bits_f 1 m b hb hn k hk
  simp only [thrumref05_Read.f]
  refine ⟨fun h => ?_, fun h => ?_⟩
  · rw [h1 h, bindS, show (1 : Int).toNat * m.toNat = m.toNat by simp]
  · rw [h2 h, bindS]
theorem Read_loop (l : List Int) (hl : l.length ≤ 1000000) (d : Nat) : ∀ (i F : Nat) (x : List Bool), i + d = l.length → x.length = l.length → (∀ j : Nat, j < i → x.getD j false = (rd l (j : Int) == 1)) →
    plane_Read.l0 (F + d + 1) x l (l.length : Int) (i : Int) = some (l.map (· == 1), 0) := by
  induction d with
  | zero =>
    intro i F x hi hx hr
    rw [plane_Read.l0, if_neg (by omega)]
    have : x = l.map (· == 1) := by
      apply List.ext_getElem (by simp [hx])
      intro j h1 h2
      have := hr j (by omega)
      rw [List.getD_eq_getElem?_getD, List.getElem?_eq_getElem h1, rd_nat, List.getD_eq_getElem?_getD, List.getElem?_eq_getElem (by omega)] at this
      simpa using this
    rw [this]
  | succ d ih =>
    intro i F x hi hx hr
    rw [show F + (d + 1) + 1 = (F + d + 1) + 1 by omega, plane_Read.l0, if_pos (by omega), if_pos (by omega), if_pos (by omega), if_pos (by omega), next_at i (by omega), Int.toNat_natCast]
    refine ih (i + 1) F _ (by omega) (by simpa using hx) (fun j hj => ?_)
    rw [List.getD_eq_getElem?_getD, List.getElem?_set]
    by_cases h : i = j
    · subst h
      rw [if_pos rfl, if_pos (by omega)]
      rfl
    · rw [if_neg h, ← List.getD_eq_getElem?_getD]
      exact hr j (by omega)
theorem Read_f (m : Int) (b : List Int) (hb : Bytes b) (hn : b.length ≤ 100000) (k : Nat) (hk : 3000000 < k) :
    (OkT 1 m b → plane_Read.f k m b = some (bitsS b m.toNat, 0)) ∧ (¬ OkT 1 m b → plane_Read.f k m b = some ([], errT 1 m b)) := by
  obtain ⟨h1, h2⟩ := Unpack_f 1 m b hb hn k (by omega)
  simp only [plane_Read.f]
  refine ⟨fun h => ?_, fun h => ?_⟩
  · obtain ⟨w0, w1, m0, m1, e⟩ := bytesS_ok2 h.e
    rw [h1 h, bindS, if_pos rfl]
    have hv : valsS (sideP (1 : Int).toNat) (1 : Int).toNat m.toNat b = (bitsS b m.toNat).map fun v => if v then 1 else 0 := by
      unfold valsS bitsS
      rw [List.map_map]
      refine List.map_congr_left (fun i _ => ?_)
      show ((2 * 0 + (pbit b (i * 1 + 0)).toNat : Nat) : Int) = if pbit b i then 1 else 0
      rw [Nat.mul_one, Nat.add_zero]
      cases pbit b i <;> rfl
    have hL : (valsS (sideP (1 : Int).toNat) (1 : Int).toNat m.toNat b).length = m.toNat := valsS_length _ _ _ _
    rw [hL, if_pos (by omega), if_pos (by omega), Int.toNat_natCast]
    have := Read_loop (valsS (sideP (1 : Int).toNat) (1 : Int).toNat m.toNat b) (by omega) m.toNat 0 (k - m.toNat - 1) (List.replicate m.toNat false) (by omega) (by rw [List.length_replicate, hL]) (fun j hj => by omega)
    rw [hL, show k - m.toNat - 1 + m.toNat + 1 = k by omega] at this
    rw [show (0 : Int) = ((0 : Nat) : Int) from rfl, this, hv, List.map_map]
    congr 2
    rw [List.map_congr_left (g := id) (fun v _ => by cases v <;> rfl), List.map_id]
  · rw [h2 h, bindS, if_neg errT_ne]

/-! ### Lists compared -/
theorem numbers_loop (l m : List Int) (hm : l.length = m.length) (hn : l.length ≤ maxLen) (d : Nat) : ∀ (k i : Nat), i + d = l.length → d < k →
    thrumref03_SameNumbers.l0 k l m (l.length : Int) (i : Int) = some (decide (l.drop i = m.drop i)) := by
  induction d with
  | zero =>
    intro k i hi hk
    obtain ⟨k, rfl⟩ : ∃ m, k = m + 1 := ⟨k - 1, by omega⟩
    simp only [thrumref03_SameNumbers.l0]
    rw [if_neg (by omega), List.drop_of_length_le (by omega), List.drop_of_length_le (by omega)]
    rfl
  | succ d ih =>
    intro k i hi hk
    obtain ⟨k, rfl⟩ : ∃ m, k = m + 1 := ⟨k - 1, by omega⟩
    simp only [thrumref03_SameNumbers.l0]
    rw [if_pos (by omega), if_pos (by omega), if_pos (by omega), if_pos (by omega)]
    rw [rd_drop l i (by omega), rd_drop m i (by omega)]
    rw [wrap_next (by omega) (show (i : Int) < (l.length : Int) by omega) hn, show ((i : Int) + 1) = ((i + 1 : Nat) : Int) by omega, ih k (i + 1) (by omega) (by omega)]
    split <;> simp_all
theorem numbers_f (k : Nat) (l m : List Int) (hn : l.length ≤ maxLen) (hk : l.length < k) : thrumref03_SameNumbers.f k l m = some (decide (l = m)) := by
  simp only [thrumref03_SameNumbers.f]
  by_cases h : l.length = m.length
  · rw [if_pos (by omega)]
    have := numbers_loop l m h hn l.length k 0 (by omega) (by omega)
    simpa using this
  · rw [if_neg (by omega), decide_eq_false (fun e => h (by rw [e]))]
theorem signs_loop (l : List Bool) (hn : l.length ≤ 1000000) (d : Nat) : ∀ (k i : Nat), i + d = l.length → d < k →
    thrumref05_SameSigns.l0 k l l (l.length : Int) (i : Int) = some true := by
  induction d with
  | zero =>
    intro k i hi hk
    obtain ⟨k, rfl⟩ : ∃ m, k = m + 1 := ⟨k - 1, by omega⟩
    rw [thrumref05_SameSigns.l0, if_neg (by omega)]
  | succ d ih =>
    intro k i hi hk
    obtain ⟨k, rfl⟩ : ∃ m, k = m + 1 := ⟨k - 1, by omega⟩
    rw [thrumref05_SameSigns.l0, if_pos (by omega), if_pos (by omega), if_pos (by omega), if_pos (by omega), if_neg (by simp), next_at i (by omega)]
    exact ih k (i + 1) (by omega) (by omega)
theorem signs_f (k : Nat) (l : List Bool) (hn : l.length ≤ 1000000) (hk : l.length < k) : thrumref05_SameSigns.f k l l = some true := by
  simp only [thrumref05_SameSigns.f]
  rw [if_pos trivial]
  have := signs_loop l hn l.length k 0 (by omega) (by omega)
  simpa using this
theorem tab_ok : ∀ i : Nat, i < 256 → bt (⟨#[0, 1, 2, 2, 3, 3, 3, 3, 4, 4, 4, 4, 4, 4, 4, 4, 5, 5, 5, 5, 5, 5, 5, 5, 5, 5, 5, 5, 5, 5, 5, 5, 6, 6, 6, 6, 6, 6, 6, 6, 6, 6, 6, 6, 6, 6, 6, 6, 6, 6, 6, 6, 6, 6, 6, 6, 6, 6, 6, 6, 6, 6, 6, 6, 7, 7, 7, 7, 7, 7, 7, 7, 7, 7, 7, 7, 7, 7, 7, 7, 7, 7, 7, 7, 7, 7, 7, 7, 7, 7, 7, 7, 7, 7, 7, 7, 7, 7, 7, 7, 7, 7, 7, 7, 7, 7, 7, 7, 7, 7, 7, 7, 7, 7, 7, 7, 7, 7, 7, 7, 7, 7, 7, 7, 7, 7, 7, 7, 8, 8, 8, 8, 8, 8, 8, 8, 8, 8, 8, 8, 8, 8, 8, 8, 8, 8, 8, 8, 8, 8, 8, 8, 8, 8, 8, 8, 8, 8, 8, 8, 8, 8, 8, 8, 8, 8, 8, 8, 8, 8, 8, 8, 8, 8, 8, 8, 8, 8, 8, 8, 8, 8, 8, 8, 8, 8, 8, 8, 8, 8, 8, 8, 8, 8, 8, 8, 8, 8, 8, 8, 8, 8, 8, 8, 8, 8, 8, 8, 8, 8, 8, 8, 8, 8, 8, 8, 8, 8, 8, 8, 8, 8, 8, 8, 8, 8, 8, 8, 8, 8, 8, 8, 8, 8, 8, 8, 8, 8, 8, 8, 8, 8, 8, 8, 8, 8, 8, 8, 8, 8, 8, 8, 8, 8, 8, 8]⟩ : ByteArray) (i : Int) = (blen i : Int) := by decide +kernel
theorem tab_int {x : Int} (h0 : 0 ≤ x) (h : x < 256) (t : ByteArray) (ht : ∀ i : Nat, i < 256 → bt t (i : Int) = (blen i : Int)) : bt t x = (blen x.toNat : Int) := by
  have := ht x.toNat (by omega)
  rwa [Int.toNat_of_nonneg h0] at this

set_option maxRecDepth 100000 in
theorem len_j0 (k : Nat) (hk : 1 ≤ k) (n : Nat) (hn : n < 4294967296) (a : Int) (ha0 : 0 ≤ a) (ha : a ≤ 64) : bits_Len64.j0 k (n : Int) a = some (a + (blen n : Int)) := by
  obtain ⟨k, rfl⟩ : ∃ m, k = m + 1 := ⟨k - 1, by omega⟩
  rw [bits_Len64.j0]
  have hb : ∀ m : Nat, m < 256 → blen m ≤ 8 := fun m hm => blen_le 8 m hm (by decide)
  by_cases h1 : n < 65536
  · rw [if_neg (by omega)]
    by_cases h2 : n < 256
    · rw [if_neg (by omega), show (n : Int) % 256 = (n : Int) by omega, if_pos (by omega), if_pos (by omega), tab_ok n h2]
      have := hb n h2
      rw [wrap_same (i := (blen n : Int)) (by omega) (by omega), wrap_same (by omega) (by omega)]
    · rw [if_pos (by omega), show (n : Int) / 256 % 256 = ((n / 256 : Nat) : Int) by omega, if_pos (by omega), if_pos (by omega), tab_ok (n / 256) (by omega)]
      have e := blen_shift 8 n (by omega) (by omega)
      rw [show (2 : Nat) ^ 8 = 256 from rfl] at e
      have := hb (n / 256) (by omega)
      rw [wrap_same (i := (blen (n / 256) : Int)) (by omega) (by omega), wrap_same (i := a + 8) (by omega) (by omega), wrap_same (by omega) (by omega), e]
      congr 1
      omega
  · rw [if_pos (by omega)]
    by_cases h2 : n / 65536 < 256
    · rw [if_neg (by omega), show (n : Int) / 65536 % 256 = ((n / 65536 : Nat) : Int) by omega, if_pos (by omega), if_pos (by omega), tab_ok (n / 65536) (by omega)]
      have e := blen_shift 16 n (by omega) (by omega)
      rw [show (2 : Nat) ^ 16 = 65536 from rfl] at e
      have := hb (n / 65536) (by omega)
      rw [wrap_same (i := (blen (n / 65536) : Int)) (by omega) (by omega), wrap_same (i := a + 16) (by omega) (by omega), wrap_same (by omega) (by omega), e]
      congr 1
      omega
    · rw [if_pos (by omega), show (n : Int) / 65536 / 256 % 256 = ((n / 16777216 : Nat) : Int) by omega, if_pos (by omega), if_pos (by omega), tab_ok (n / 16777216) (by omega)]
      have e := blen_shift 24 n (by omega) (by omega)
      rw [show (2 : Nat) ^ 24 = 16777216 from rfl] at e
      have := hb (n / 16777216) (by omega)
      rw [wrap_same (i := (blen (n / 16777216) : Int)) (by omega) (by omega), wrap_same (i := a + 16) (by omega) (by omega), wrap_same (i := a + 16 + 8) (by omega) (by omega), wrap_same (by omega) (by omega), e]
      congr 1
      omega
theorem len_f (k : Nat) (hk : 1 ≤ k) (n : Nat) (hn : n < 18446744073709551616) : bits_Len64.f k (n : Int) = some (blen n : Int) := by
  simp only [bits_Len64.f]
  by_cases h : n < 4294967296
  · rw [if_neg (by omega), len_j0 k hk n h 0 (by omega) (by omega)]
    congr 1
    omega
  · rw [if_pos (by omega), show (n : Int) / 4294967296 = ((n / 4294967296 : Nat) : Int) by omega, len_j0 k hk _ (by omega) 32 (by omega) (by omega)]
    have e := blen_shift 32 n (by omega) (by omega)
    rw [show (2 : Nat) ^ 32 = 4294967296 from rfl] at e
    rw [e]
    congr 1
    omega

theorem Width_f (k : Nat) (hk : 1 ≤ k) (n : Nat) (hn : n < 18446744073709551616) : plane_Width.f k (n : Int) = some (blen n : Int) := by
  simp only [plane_Width.f]
  rw [len_f k hk n hn, bindS]
theorem zero_sum : wrap64 (((0 : Nat) : Int) + ((0 : Nat) : Int)) = 0 := by
  rw [wrap_same (by decide) (by decide)]
  rfl
theorem OkT.m_le {w m : Int} {b : List Int} (h : OkT w m b) : m.toNat ≤ 4096 := by
  obtain ⟨_, _, h0, h1, _⟩ := bytesS_ok2 h.e
  omega
end Go.Proofs.Ytlppmamhbpcfcaa.PlaneEq
