/- What taking numbers out of bytes comes to, of the given code and of the document, told by the bytes' bits; conditions: widths to 32, texts of at most 10000 bytes. -/
import Derived.Test.YtlppmamhbpcfcaaPD
import Derived.Test.YtlppmamhbpcfcaaPlaneEqC
namespace Go.Proofs.Ytlppmamhbpcfcaa.PlaneEq
open Go.RowKit Go.Proofs.Ytlppmamhbpcfcaa.MPl Go.Proofs.Ytlppmamhbpcfcaa.Plain Go.Proofs.Ytlppmamhbpcfcaa.PlaneBits Go.Proofs.YtlppmamhbpcfcaaW.PrintWords Go.Proofs.YtlppmamhbpcfcaaW.PrintLast Go.Proofs.YtlppmamhbpcfcaaW.PrintMore
set_option linter.unusedVariables false
set_option linter.unusedSimpArgs false

/-- A number of k bits, the highest first. -/
def numS (g : Nat → Bool) : Nat → Nat
  | 0 => 0
  | k + 1 => 2 * numS g k + (g k).toNat
theorem numS_lt (g : Nat → Bool) (k : Nat) : numS g k < 2 ^ k := by
  induction k with
  | zero => simp [numS]
  | succ k ih =>
    simp only [numS]
    rw [Nat.pow_succ]
    have : (g k).toNat ≤ 1 := by cases g k <;> simp
    omega
theorem numS_congr {g h : Nat → Bool} (k : Nat) (hg : ∀ j, j < k → g j = h j) : numS g k = numS h k := by
  induction k with
  | zero => rfl
  | succ k ih => simp only [numS]; rw [ih (fun j hj => hg j (by omega)), hg k (by omega)]
theorem numS_bit (g : Nat → Bool) (w : Nat) : ∀ k, k < w → (numS g w).testBit (w - 1 - k) = g k := by
  induction w with
  | zero => intro k hk; omega
  | succ w ih =>
    intro k hk
    simp only [numS]
    by_cases h : k = w
    · subst h
      rw [show k + 1 - 1 - k = 0 by omega, Nat.testBit_zero]
      cases g k <;> simp <;> omega
    · rw [show w + 1 - 1 - k = (w - 1 - k) + 1 by omega, Nat.testBit_succ]
      have : (2 * numS g w + (g w).toNat) / 2 = numS g w := by
        have : (g w).toNat ≤ 1 := by cases g w <;> simp
        omega
      rw [this]
      exact ih k (by omega)
theorem numS_of (x w : Nat) : ∀ k, k ≤ w → x < 2 ^ w → numS (fun j => x.testBit (w - 1 - j)) k = x / 2 ^ (w - k) := by
  intro k
  induction k with
  | zero =>
    intro _ hx
    simp only [numS]
    exact (Nat.div_eq_of_lt hx).symm
  | succ k ih =>
    intro hk hx
    simp only [numS]
    rw [ih (by omega) hx, show w - k = (w - 1 - k) + 1 by omega, show w - (k + 1) = w - 1 - k by omega, Nat.pow_succ, ← Nat.div_div_eq_div_mul, Nat.testBit_eq_decide_div_mod_eq]
    generalize x / 2 ^ (w - 1 - k) = y
    by_cases h : y % 2 = 1
    · rw [decide_eq_true h]
      simp
      omega
    · rw [decide_eq_false h]
      simp
      omega
theorem numS_self {x w : Nat} (hx : x < 2 ^ w) : numS (fun j => x.testBit (w - 1 - j)) w = x := by
  rw [numS_of x w w (Nat.le_refl _) hx]
  simp

/-- The numbers in a text, by places. -/
def valsS (P : Nat → Nat → Nat) (w m : Nat) (b : List Int) : List Int := (List.range m).map fun i => (numS (fun k => pbit b (P i k)) w : Int)
theorem valsS_length (P : Nat → Nat → Nat) (w m : Nat) (b : List Int) : (valsS P w m b).length = m := by simp [valsS]
theorem valsS_rd (P : Nat → Nat → Nat) (w m : Nat) (b : List Int) (i : Nat) (hi : i < m) : rd (valsS P w m b) (i : Int) = (numS (fun k => pbit b (P i k)) w : Int) := by
  simp [rd_nat, valsS, List.getD_eq_getElem?_getD, hi]
def sideP (w : Nat) (i k : Nat) : Nat := i * w + k
def wovenP (m : Nat) (i k : Nat) : Nat := k * m + i
/-- Behind the numbers there are no bits. -/
def Clean (w m : Nat) (b : List Int) : Prop := ∀ q, w * m ≤ q → q < 8 * b.length → pbit b q = false
structure OkT (w m : Int) (b : List Int) : Prop where
  e : (bytesS w m).2 = 0
  n : (b.length : Int) = (bytesS w m).1
  c : Clean w.toNat m.toNat b
def errT (w m : Int) (b : List Int) : Int := if (bytesS w m).2 = 0 then (if (b.length : Int) = (bytesS w m).1 then 6 else 4) else (bytesS w m).2
theorem bytesS_ok2 {w m : Int} (hb : (bytesS w m).2 = 0) : 0 ≤ w ∧ w ≤ 32 ∧ 0 ≤ m ∧ m ≤ 4096 ∧ (bytesS w m).1 = (w * m + 7) / 8 := by
  unfold bytesS at hb ⊢
  split at hb
  · simp at hb
  · split at hb
    · simp at hb
    · rename_i h1 h2
      rw [if_neg h1, if_neg h2]
      refine ⟨by omega, by omega, by omega, by omega, rfl⟩
theorem errT_ne {w m : Int} {b : List Int} : errT w m b ≠ 0 := by
  unfold errT
  split
  · split <;> decide
  · assumption

/-! ### The last byte's low bits -/
theorem low_and : ∀ x : Nat, x < 256 → ∀ j : Nat, j < 8 → Go.bits .and .u8 (x : Int) ((shl .u8 1 (j : Int) - 1) % 256) = ((x % 2 ^ j : Nat) : Int) := by decide +kernel
theorem low_bits : ∀ x : Nat, x < 256 → ∀ j : Nat, j < 8 → (x % 2 ^ j = 0 ↔ ∀ i : Nat, i < j → x.testBit i = false) := by decide +kernel
theorem clean_iff {w m : Nat} {b : List Int} (hb : Bytes b) (hn : b.length = (w * m + 7) / 8) (h0 : 0 < 8 * b.length - w * m) :
    Go.bits .and .u8 (rd b ((b.length - 1 : Nat) : Int)) ((shl .u8 1 ((8 * b.length - w * m : Nat) : Int) - 1) % 256) = 0 ↔ Clean w m b := by
  obtain ⟨x0, x1⟩ := Bytes.rd hb (b.length - 1) (by omega)
  have hpb : ∀ q, w * m ≤ q → q < 8 * b.length → pbit b q = (rd b ((b.length - 1 : Nat) : Int)).toNat.testBit (7 - q % 8) := by
    intro q h1 h2
    unfold pbit
    rw [show q / 8 = b.length - 1 by omega]
  obtain ⟨x, hx⟩ := Int.eq_ofNat_of_zero_le x0
  rw [hx] at x1 hpb ⊢
  rw [Int.toNat_natCast] at hpb
  rw [low_and x (by omega) _ (by omega)]
  have := low_bits x (by omega) (8 * b.length - w * m) (by omega)
  constructor
  · intro h
    have h2 := this.1 (by omega)
    intro q q1 q2
    rw [hpb q q1 q2]
    exact h2 _ (by omega)
  · intro h
    rw [this.2 (fun i hi => by
      have h3 := h (8 * b.length - 1 - i) (by omega) (by omega)
      rw [hpb _ (by omega) (by omega)] at h3
      rwa [show 7 - (8 * b.length - 1 - i) % 8 = i by omega] at h3)]
    rfl

theorem shr_nat (k : IntKind) (x j : Nat) (hj : j ≤ k.bits) : shr k (x : Int) (j : Int) = ((x / 2 ^ j : Nat) : Int) := by
  unfold shr
  rw [Int.toNat_natCast, Nat.min_eq_left hj]
  norm_cast
theorem bit_u8 {b : List Int} (hb : Bytes b) (p : Nat) (hp : p / 8 < b.length) : IntKind.u64.wrap (Go.bits .and .u8 (shr .u8 (rd b ((p / 8 : Nat) : Int)) ((7 - p % 8 : Nat) : Int)) 1) = ((pbit b p).toNat : Int) := by
  obtain ⟨x0, x1⟩ := Bytes.rd hb (p / 8) hp
  unfold pbit
  obtain ⟨x, hx⟩ := Int.eq_ofNat_of_zero_le x0
  rw [hx] at x1 ⊢
  have e : shr .u8 (x : Int) ((7 - p % 8 : Nat) : Int) = ((x / 2 ^ (7 - p % 8) : Nat) : Int) := shr_nat .u8 x _ (by show 7 - p % 8 ≤ 8; omega)
  have hlt : x / 2 ^ (7 - p % 8) < 256 := Nat.lt_of_le_of_lt (Nat.div_le_self _ _) (by omega)
  rw [e, show (1 : Int) = ((1 : Nat) : Int) from rfl, u8_and_nat _ _ hlt (by decide), nat_mask1, Int.toNat_natCast, Nat.testBit_eq_decide_div_mod_eq]
  rcases Nat.mod_two_eq_zero_or_one (x / 2 ^ (7 - p % 8)) with h | h <;> rw [h] <;> decide
theorem join_bit (n : Nat) (hn : n < 4294967296) (v : Bool) : Go.bits .or .u64 (IntKind.u64.wrap ((n : Int) * 2)) (v.toNat : Int) = ((2 * n + v.toNat : Nat) : Int) := by
  have hv : v.toNat ≤ 1 := by cases v <;> simp
  rw [u64_same (by omega) (by omega), show (n : Int) * 2 = ((2 * n : Nat) : Int) by omega, u64_or_nat _ _ (by omega) (by omega), nat_join 1 (2 * n) v.toNat (by simp) (by omega)]

theorem place_at (a c : Nat) (h : a + c < 1000000) : wrap64 (wrap64 (a : Int) + (c : Int)) = ((a + c : Nat) : Int) := by
  rw [wrap_same (i := (a : Int)) (by omega) (by omega), wrap_same (by omega) (by omega)]
  omega
theorem low_at (p : Nat) (h : p < 1000000) : wrap64 (7 - Go.bits .and .i64 (p : Int) 7) = ((7 - p % 8 : Nat) : Int) := by
  rw [and7 _ (by omega), wrap_same (by omega) (by omega)]
  omega
theorem next_at (k : Nat) (h : k < 1000000) : wrap64 ((k : Int) + 1) = ((k + 1 : Nat) : Int) := by
  rw [wrap_same (by omega) (by omega)]
  omega
theorem div8 (p : Nat) : (p : Int) / 8 = ((p / 8 : Nat) : Int) := by omega
/-- The state of taking: numbers ahead of i are whole, number i has k bits. -/
structure St (P : Nat → Nat → Nat) (w m : Nat) (b : List Int) (i k : Nat) (x : List Int) : Prop where
  len : x.length = m
  val : ∀ j : Nat, j < m → rd x (j : Int) = (numS (fun k => pbit b (P j k)) (if j < i then w else if j = i then k else 0) : Int)
theorem St.step {P : Nat → Nat → Nat} {w m : Nat} {b : List Int} {i k : Nat} {x : List Int} (h : St P w m b i k x) (hi : i < m) (v : Int) (hv : v = (numS (fun k => pbit b (P i k)) (k + 1) : Int)) : St P w m b i (k + 1) (x.set i v) where
  len := by rw [List.length_set, h.len]
  val := fun j hj => by
    rw [rd_set _ _ _ _ (by rw [h.len]; exact hi)]
    by_cases hj2 : i = j
    · subst hj2
      rw [if_pos rfl, if_neg (by omega), if_pos rfl, hv]
    · rw [if_neg hj2, h.val j hj]
      by_cases hj3 : j < i
      · rw [if_pos hj3, if_pos hj3]
      · rw [if_neg hj3, if_neg hj3, if_neg (by omega), if_neg (by omega)]
theorem St.next {P : Nat → Nat → Nat} {w m : Nat} {b : List Int} {i : Nat} {x : List Int} (h : St P w m b i w x) : St P w m b (i + 1) 0 x where
  len := h.len
  val := fun j hj => by
    rw [h.val j hj]
    by_cases hj3 : j < i
    · rw [if_pos hj3, if_pos (by omega)]
    · rw [if_neg hj3]
      by_cases hj2 : j = i
      · rw [if_pos hj2, if_pos (by omega)]
      · rw [if_neg hj2, if_neg (by omega)]
        split <;> rfl
theorem St.start (P : Nat → Nat → Nat) (w m : Nat) (b : List Int) : St P w m b 0 0 (List.replicate m 0) where
  len := by simp
  val := fun j hj => by
    have e : (if j = 0 then 0 else 0 : Nat) = 0 := by split <;> rfl
    rw [rd_nat, List.getD_eq_getElem?_getD, List.getElem?_replicate, if_pos hj, if_neg (by omega), e]
    rfl
theorem St.done {P : Nat → Nat → Nat} {w m : Nat} {b : List Int} {x : List Int} (h : St P w m b m 0 x) : x = valsS P w m b := by
  apply rd_ext (by rw [h.len, valsS_length])
  intro j hj
  rw [h.len] at hj
  rw [h.val j hj, if_pos hj, valsS_rd _ _ _ _ _ hj]
theorem Unpack_in (w m : Nat) (hw : w ≤ 32) (hm : m ≤ 4096) (b : List Int) (hb : Bytes b) (hn : b.length = (w * m + 7) / 8) (i : Nat) (hi : i < m) (d : Nat) : ∀ (k : Nat) (x : List Int), k + d = w → St (sideP w) w m b i k x →
    ∃ x1, St (sideP w) w m b i w x1 ∧ ∀ F : Nat, plane_Unpack.l1 (F + d + 1) (w : Int) b x (i : Int) (m : Int) (i : Int) (w : Int) (k : Int) = plane_Unpack.l0 F (w : Int) b x1 (m : Int) ((i + 1 : Nat) : Int) := by
  induction d with
  | zero =>
    intro k x hk hx
    obtain rfl : k = w := by omega
    refine ⟨x, hx, fun F => ?_⟩
    simp only [plane_Unpack.l1]
    rw [if_neg (by omega), wrap_same (by omega) (by omega)]
    rfl
  | succ d ih =>
    intro k x hk hx
    have hkw : k < w := by omega
    have hkd : k + 1 + d = w := by omega
    have hlt : i * w + k < w * m := side_lt (w := w) (m := m) hi hkw
    have hwm := wm_nat hw hm
    have hl8 : (i * w + k) / 8 < b.length := by omega
    have hk1 : k < 1000000 := by omega
    have hxi := hx.val i hi
    rw [if_neg (by omega), if_pos rfl] at hxi
    have hk32 : numS (fun k => pbit b (sideP w i k)) k < 4294967296 := Nat.lt_of_lt_of_le (numS_lt _ k) (Nat.pow_le_pow_right (n := 2) (by decide) (Nat.le_trans (Nat.le_of_lt hkw) hw))
    obtain ⟨x1, h1, h2⟩ := ih (k + 1) _ hkd (hx.step hi ((2 * numS (fun k => pbit b (sideP w i k)) k + (pbit b (i * w + k)).toNat : Nat) : Int) rfl)
    refine ⟨x1, h1, fun F => ?_⟩
    rw [← h2 F]
    rw [show F + (d + 1) + 1 = (F + d + 1) + 1 by omega, plane_Unpack.l1]
    have e0 : (i : Int) * (w : Int) = ((i * w : Nat) : Int) := by rw [Int.natCast_mul]
    have hsm : i * w + k < 1000000 := Nat.lt_of_lt_of_le hlt (Nat.le_trans hwm (by decide))
    have e1 : wrap64 (wrap64 ((i : Int) * (w : Int)) + (k : Int)) = ((i * w + k : Nat) : Int) := by
      rw [e0]
      exact place_at _ _ hsm
    have e3 := low_at (i * w + k) hsm
    have e4 := div8 (i * w + k)
    have hlen := hx.len
    rw [e1, e3, e4, bit_u8 hb _ hl8, hxi, join_bit _ hk32]
    have c1 : (k : Int) < (w : Int) := Int.ofNat_lt.mpr hkw
    have c2 : (i : Int) < (x.length : Int) := by
      rw [hlen]
      exact Int.ofNat_lt.mpr hi
    have c3 : (((i * w + k) / 8 : Nat) : Int) < (b.length : Int) := Int.ofNat_lt.mpr hl8
    have c4 := next_at k hk1
    rw [if_pos c1, if_pos (Int.natCast_nonneg _), if_pos c2, if_pos (Int.natCast_nonneg _), if_pos c3, if_pos (Int.natCast_nonneg _), c4, Int.toNat_natCast]
theorem Unpack_loop (w m : Nat) (hw : w ≤ 32) (hm : m ≤ 4096) (b : List Int) (hb : Bytes b) (hn : b.length = (w * m + 7) / 8) (d : Nat) : ∀ (i : Nat) (x : List Int), i + d = m → St (sideP w) w m b i 0 x →
    ∀ F : Nat, plane_Unpack.l0 (F + d * (w + 2) + 1) (w : Int) b x (m : Int) (i : Int) = some (valsS (sideP w) w m b, 0) := by
  induction d with
  | zero =>
    intro i x hi hx F
    obtain rfl : i = m := by omega
    simp only [plane_Unpack.l0]
    rw [if_neg (by omega), hx.done]
  | succ d ih =>
    intro i x hi hx F
    obtain ⟨x1, h1, h2⟩ := Unpack_in w m hw hm b hb hn i (by omega) w 0 x (by omega) hx
    have h4 := ih (i + 1) x1 (by omega) h1.next F
    rw [show F + (d + 1) * (w + 2) + 1 = ((F + d * (w + 2) + 1) + w + 1) + 1 by rw [Nat.add_mul]; omega, plane_Unpack.l0]
    rw [if_pos (by omega)]
    have := h2 (F + d * (w + 2) + 1)
    rw [h4] at this
    exact this
theorem Unpack_f (w m : Int) (b : List Int) (hb : Bytes b) (hn : b.length ≤ 100000) (k : Nat) (hk : 1000000 < k) :
    (OkT w m b → plane_Unpack.f k w m b = some (valsS (sideP w.toNat) w.toNat m.toNat b, 0)) ∧ (¬ OkT w m b → plane_Unpack.f k w m b = some ([], errT w m b)) := by
  simp only [plane_Unpack.f]
  rw [Bytes_f k (by omega), bindS]
  unfold errT
  by_cases he : (bytesS w m).2 = 0
  · rw [if_pos he, if_pos he]
    by_cases hl : (b.length : Int) = (bytesS w m).1
    · rw [if_pos hl, if_pos hl]
      obtain ⟨w0, w1, m0, m1, e⟩ := bytesS_ok2 he
      rw [e] at hl ⊢
      have hok : OkT w m b ↔ Clean w.toNat m.toNat b := ⟨fun h => h.c, fun h => ⟨he, by rw [e]; exact hl, h⟩⟩
      rw [hok]
      clear hok he e
      obtain ⟨w, rfl⟩ := Int.eq_ofNat_of_zero_le w0
      obtain ⟨m, rfl⟩ := Int.eq_ofNat_of_zero_le m0
      rw [Int.toNat_natCast, Int.toNat_natCast]
      have hwm := wm_nat (w := w) (m := m) (by omega) (by omega)
      have hln : b.length = (w * m + 7) / 8 := by
        rw [← Int.natCast_mul] at hl
        omega
      rw [← Int.natCast_mul, show (((w * m : Nat) : Int) + 7) / 8 = (b.length : Int) by omega]
      rw [wrap_same (i := 8 * (b.length : Int)) (by omega) (by omega), wrap_same (i := ((w * m : Nat) : Int)) (by omega) (by omega), wrap_same (i := 8 * (b.length : Int) - ((w * m : Nat) : Int)) (by omega) (by omega), wrap_same (i := (b.length : Int) - 1) (by omega) (by omega)]
      have hj : ∀ v : Bool, plane_Unpack.j0 k (w : Int) (m : Int) b v = if v = true then some ([], 6) else some (valsS (sideP w) w m b, 0) := by
        intro v
        obtain ⟨k, rfl⟩ : ∃ j, k = j + 1 := ⟨k - 1, by omega⟩
        rw [plane_Unpack.j0]
        cases v
        · rw [if_neg (show ¬ (false = true) from Bool.false_ne_true), if_neg (show ¬ (false = true) from Bool.false_ne_true), if_pos (by omega), if_pos (by omega), bindS, Int.toNat_natCast, List.length_replicate]
          have hle : m * (w + 2) ≤ 4096 * 34 := Nat.mul_le_mul (by omega) (by omega)
          have := Unpack_loop w m (by omega) (by omega) b hb hln m 0 _ (by omega) (St.start _ _ _ _) (k - (m * (w + 2) + 1))
          rw [show k - (m * (w + 2) + 1) + m * (w + 2) + 1 = k by omega] at this
          exact this
        · rw [if_pos rfl, if_pos rfl]
      by_cases h0 : 0 < 8 * b.length - w * m
      · rw [if_pos (by omega), if_pos (by omega), if_pos (by omega), if_pos (by omega), hj]
        have hc := clean_iff hb hln h0
        rw [show (b.length : Int) - 1 = ((b.length - 1 : Nat) : Int) by omega, show 8 * (b.length : Int) - ((w * m : Nat) : Int) = ((8 * b.length - w * m : Nat) : Int) by omega]
        constructor
        · intro h
          rw [hc.2 h, if_neg (by decide)]
        · intro h
          rw [if_pos (bne_iff_ne.2 (fun e => h (hc.1 e)))]
      · have hc : Clean w m b := fun q h1 h2 => by omega
        rw [if_neg (by omega), hj]
        exact ⟨fun _ => by rw [if_neg (by decide)], fun h => (h hc).elim⟩
    · rw [if_neg hl, if_neg hl]
      exact ⟨fun h => (hl h.n).elim, fun _ => rfl⟩
  · rw [if_neg he, if_neg he]
    exact ⟨fun h => (he h.e).elim, fun _ => rfl⟩
theorem Unweave_in (w m : Nat) (hw : w ≤ 32) (hm : m ≤ 4096) (b : List Int) (hb : Bytes b) (hn : b.length = (w * m + 7) / 8) (i : Nat) (hi : i < m) (d : Nat) : ∀ (k : Nat) (x : List Int), k + d = w → St (wovenP m) w m b i k x →
    ∃ x1, St (wovenP m) w m b i w x1 ∧ ∀ F : Nat, plane_Unweave.l1 (F + d + 1) (w : Int) (m : Int) b x (i : Int) (m : Int) (i : Int) (w : Int) (k : Int) = plane_Unweave.l0 F (w : Int) (m : Int) b x1 (m : Int) ((i + 1 : Nat) : Int) := by
  induction d with
  | zero =>
    intro k x hk hx
    obtain rfl : k = w := by omega
    refine ⟨x, hx, fun F => ?_⟩
    simp only [plane_Unweave.l1]
    rw [if_neg (by omega), wrap_same (by omega) (by omega)]
    rfl
  | succ d ih =>
    intro k x hk hx
    have hkw : k < w := by omega
    have hkd : k + 1 + d = w := by omega
    have hlt : k * m + i < w * m := woven_lt (w := w) (m := m) hi hkw
    have hwm := wm_nat hw hm
    have hl8 : (k * m + i) / 8 < b.length := by omega
    have hk1 : k < 1000000 := by omega
    have hxi := hx.val i hi
    rw [if_neg (by omega), if_pos rfl] at hxi
    have hk32 : numS (fun k => pbit b (wovenP m i k)) k < 4294967296 := Nat.lt_of_lt_of_le (numS_lt _ k) (Nat.pow_le_pow_right (n := 2) (by decide) (Nat.le_trans (Nat.le_of_lt hkw) hw))
    obtain ⟨x1, h1, h2⟩ := ih (k + 1) _ hkd (hx.step hi ((2 * numS (fun k => pbit b (wovenP m i k)) k + (pbit b (k * m + i)).toNat : Nat) : Int) rfl)
    refine ⟨x1, h1, fun F => ?_⟩
    rw [← h2 F]
    rw [show F + (d + 1) + 1 = (F + d + 1) + 1 by omega, plane_Unweave.l1]
    have e0 : (k : Int) * (m : Int) = ((k * m : Nat) : Int) := by rw [Int.natCast_mul]
    have hsm : k * m + i < 1000000 := Nat.lt_of_lt_of_le hlt (Nat.le_trans hwm (by decide))
    have e1 : wrap64 (wrap64 ((k : Int) * (m : Int)) + (i : Int)) = ((k * m + i : Nat) : Int) := by
      rw [e0]
      exact place_at _ _ hsm
    have e3 := low_at (k * m + i) hsm
    have e4 := div8 (k * m + i)
    have hlen := hx.len
    rw [e1, e3, e4, bit_u8 hb _ hl8, hxi, join_bit _ hk32]
    have c1 : (k : Int) < (w : Int) := Int.ofNat_lt.mpr hkw
    have c2 : (i : Int) < (x.length : Int) := by
      rw [hlen]
      exact Int.ofNat_lt.mpr hi
    have c3 : (((k * m + i) / 8 : Nat) : Int) < (b.length : Int) := Int.ofNat_lt.mpr hl8
    have c4 := next_at k hk1
    rw [if_pos c1, if_pos (Int.natCast_nonneg _), if_pos c2, if_pos (Int.natCast_nonneg _), if_pos c3, if_pos (Int.natCast_nonneg _), c4, Int.toNat_natCast]
theorem Unweave_loop (w m : Nat) (hw : w ≤ 32) (hm : m ≤ 4096) (b : List Int) (hb : Bytes b) (hn : b.length = (w * m + 7) / 8) (d : Nat) : ∀ (i : Nat) (x : List Int), i + d = m → St (wovenP m) w m b i 0 x →
    ∀ F : Nat, plane_Unweave.l0 (F + d * (w + 2) + 1) (w : Int) (m : Int) b x (m : Int) (i : Int) = some (valsS (wovenP m) w m b, 0) := by
  induction d with
  | zero =>
    intro i x hi hx F
    obtain rfl : i = m := by omega
    simp only [plane_Unweave.l0]
    rw [if_neg (by omega), hx.done]
  | succ d ih =>
    intro i x hi hx F
    obtain ⟨x1, h1, h2⟩ := Unweave_in w m hw hm b hb hn i (by omega) w 0 x (by omega) hx
    have h4 := ih (i + 1) x1 (by omega) h1.next F
    rw [show F + (d + 1) * (w + 2) + 1 = ((F + d * (w + 2) + 1) + w + 1) + 1 by rw [Nat.add_mul]; omega, plane_Unweave.l0]
    rw [if_pos (by omega)]
    have := h2 (F + d * (w + 2) + 1)
    rw [h4] at this
    exact this
theorem Unweave_f (w m : Int) (b : List Int) (hb : Bytes b) (hn : b.length ≤ 100000) (k : Nat) (hk : 1000000 < k) :
    (OkT w m b → plane_Unweave.f k w m b = some (valsS (wovenP m.toNat) w.toNat m.toNat b, 0)) ∧ (¬ OkT w m b → plane_Unweave.f k w m b = some ([], errT w m b)) := by
  simp only [plane_Unweave.f]
  rw [Bytes_f k (by omega), bindS]
  unfold errT
  by_cases he : (bytesS w m).2 = 0
  · rw [if_pos he, if_pos he]
    by_cases hl : (b.length : Int) = (bytesS w m).1
    · rw [if_pos hl, if_pos hl]
      obtain ⟨w0, w1, m0, m1, e⟩ := bytesS_ok2 he
      rw [e] at hl ⊢
      have hok : OkT w m b ↔ Clean w.toNat m.toNat b := ⟨fun h => h.c, fun h => ⟨he, by rw [e]; exact hl, h⟩⟩
      rw [hok]
      clear hok he e
      obtain ⟨w, rfl⟩ := Int.eq_ofNat_of_zero_le w0
      obtain ⟨m, rfl⟩ := Int.eq_ofNat_of_zero_le m0
      rw [Int.toNat_natCast, Int.toNat_natCast]
      have hwm := wm_nat (w := w) (m := m) (by omega) (by omega)
      have hln : b.length = (w * m + 7) / 8 := by
        rw [← Int.natCast_mul] at hl
        omega
      rw [← Int.natCast_mul, show (((w * m : Nat) : Int) + 7) / 8 = (b.length : Int) by omega]
      rw [wrap_same (i := 8 * (b.length : Int)) (by omega) (by omega), wrap_same (i := ((w * m : Nat) : Int)) (by omega) (by omega), wrap_same (i := 8 * (b.length : Int) - ((w * m : Nat) : Int)) (by omega) (by omega), wrap_same (i := (b.length : Int) - 1) (by omega) (by omega)]
      have hj : ∀ v : Bool, plane_Unweave.j0 k (w : Int) (m : Int) b v = if v = true then some ([], 6) else some (valsS (wovenP m) w m b, 0) := by
        intro v
        obtain ⟨k, rfl⟩ : ∃ j, k = j + 1 := ⟨k - 1, by omega⟩
        rw [plane_Unweave.j0]
        cases v
        · rw [if_neg (show ¬ (false = true) from Bool.false_ne_true), if_neg (show ¬ (false = true) from Bool.false_ne_true), if_pos (by omega), if_pos (by omega), bindS, Int.toNat_natCast, List.length_replicate]
          have hle : m * (w + 2) ≤ 4096 * 34 := Nat.mul_le_mul (by omega) (by omega)
          have := Unweave_loop w m (by omega) (by omega) b hb hln m 0 _ (by omega) (St.start _ _ _ _) (k - (m * (w + 2) + 1))
          rw [show k - (m * (w + 2) + 1) + m * (w + 2) + 1 = k by omega] at this
          exact this
        · rw [if_pos rfl, if_pos rfl]
      by_cases h0 : 0 < 8 * b.length - w * m
      · rw [if_pos (by omega), if_pos (by omega), if_pos (by omega), if_pos (by omega), hj]
        have hc := clean_iff hb hln h0
        rw [show (b.length : Int) - 1 = ((b.length - 1 : Nat) : Int) by omega, show 8 * (b.length : Int) - ((w * m : Nat) : Int) = ((8 * b.length - w * m : Nat) : Int) by omega]
        constructor
        · intro h
          rw [hc.2 h, if_neg (by decide)]
        · intro h
          rw [if_pos (bne_iff_ne.2 (fun e => h (hc.1 e)))]
      · have hc : Clean w m b := fun q h1 h2 => by omega
        rw [if_neg (by omega), hj]
        exact ⟨fun _ => by rw [if_neg (by decide)], fun h => (h hc).elim⟩
    · rw [if_neg hl, if_neg hl]
      exact ⟨fun h => (hl h.n).elim, fun _ => rfl⟩
  · rw [if_neg he, if_neg he]
    exact ⟨fun h => (he h.e).elim, fun _ => rfl⟩
end Go.Proofs.Ytlppmamhbpcfcaa.PlaneEq
