/- Plain facts on bits in bytes: setting one, reading one, bytes told by their bits, numbers made of bits; conditions as typed. -/
import Derived.Test.YtlppmamhbpcfcaaPlain
namespace Go.Proofs.Ytlppmamhbpcfcaa.PlaneBits
open Go.RowKit Go.Proofs.YtlppmamhbpcfcaaW.PrintWords Go.Proofs.YtlppmamhbpcfcaaW.PrintMore Go.Proofs.Ytlppmamhbpcfcaa.Plain

/-- A text's bit q, the highest of each byte first. -/
def pbit (b : List Int) (q : Nat) : Bool := (rd b ((q / 8 : Nat) : Int)).toNat.testBit (7 - q % 8)
/-- One bit put. -/
def setb (b : List Int) (p : Nat) (v : Bool) : List Int := b.set (p / 8) (((rd b ((p / 8 : Nat) : Int)).toNat ||| (v.toNat <<< (7 - p % 8)) : Nat) : Int)
theorem setb_length (b : List Int) (p : Nat) (v : Bool) : (setb b p v).length = b.length := by simp [setb]
theorem setb_bytes {b : List Int} (hb : Bytes b) (p : Nat) (v : Bool) : Bytes (setb b p v) := by
  intro x hx
  by_cases hp : p / 8 < b.length
  · rcases List.mem_or_eq_of_mem_set hx with h | h
    · exact hb x h
    · subst h
      obtain ⟨h0, h1⟩ := Bytes.rd hb (p / 8) hp
      refine ⟨by omega, ?_⟩
      have : (rd b ((p / 8 : Nat) : Int)).toNat ||| (v.toNat <<< (7 - p % 8)) < 2 ^ 8 := by
        apply Nat.or_lt_two_pow
        · omega
        · have : ∀ v : Bool, ∀ j : Nat, j < 8 → v.toNat <<< j < 2 ^ 8 := by decide
          exact this v _ (by omega)
      omega
  · rw [setb, List.set_eq_of_length_le (by omega)] at hx
    exact hb x hx
theorem bit_shift (v : Bool) (j i : Nat) : (v.toNat <<< j).testBit i = (decide (i = j) && v) := by
  rw [Nat.testBit_shiftLeft]
  cases v
  · simp
  · by_cases h : i = j
    · subst h; simp
    · by_cases h1 : i ≥ j
      · have : Nat.testBit 1 (i - j) = false := Nat.testBit_lt_two_pow (Nat.one_lt_two_pow (by omega))
        simp [h, this]
      · simp [h, h1]
theorem pbit_setb {b : List Int} {p : Nat} (v : Bool) (q : Nat) (hp : p < 8 * b.length) : pbit (setb b p v) q = if q = p then (pbit b p || v) else pbit b q := by
  unfold pbit
  rw [setb, rd_set _ _ _ _ (by omega)]
  by_cases h : q = p
  · subst h
    rw [if_pos rfl, if_pos rfl, Int.toNat_natCast, Nat.testBit_or, bit_shift]
    simp
  · rw [if_neg h]
    by_cases h8 : p / 8 = q / 8
    · rw [if_pos h8, Int.toNat_natCast, Nat.testBit_or, bit_shift, h8, decide_eq_false (show ¬ (7 - q % 8 = 7 - p % 8) by omega)]
      simp
    · rw [if_neg h8]
theorem byte_ext {x y : Nat} (hx : x < 256) (hy : y < 256) (h : ∀ j : Nat, j < 8 → x.testBit j = y.testBit j) : x = y := by
  apply Nat.eq_of_testBit_eq
  intro j
  by_cases hj : j < 8
  · exact h j hj
  · rw [Nat.testBit_lt_two_pow (Nat.lt_of_lt_of_le hx (Nat.pow_le_pow_right (n := 2) (by decide) (show 8 ≤ j by omega))), Nat.testBit_lt_two_pow (Nat.lt_of_lt_of_le hy (Nat.pow_le_pow_right (n := 2) (by decide) (show 8 ≤ j by omega)))]
theorem bytes_ext {a b : List Int} (ha : Bytes a) (hb : Bytes b) (hl : a.length = b.length) (h : ∀ q : Nat, q < 8 * a.length → pbit a q = pbit b q) : a = b := by
  apply rd_ext hl
  intro i hi
  obtain ⟨a0, a1⟩ := Bytes.rd ha i hi
  obtain ⟨b0, b1⟩ := Bytes.rd hb i (by omega)
  have : (rd a (i : Int)).toNat = (rd b (i : Int)).toNat := by
    apply byte_ext (by omega) (by omega)
    intro j hj
    have := h (8 * i + (7 - j)) (by omega)
    unfold pbit at this
    rwa [show (8 * i + (7 - j)) / 8 = i by omega, show 7 - (8 * i + (7 - j)) % 8 = j by omega] at this
  omega
/-- So many bytes, whose bits are B's. -/
structure IsPack (B : Nat → Bool) (n : Nat) (b : List Int) : Prop where
  len : b.length = n
  bytes : Bytes b
  bit : ∀ q : Nat, q < 8 * n → pbit b q = B q
theorem IsPack.one {B : Nat → Bool} {n : Nat} {a b : List Int} (ha : IsPack B n a) (hb : IsPack B n b) : a = b :=
  bytes_ext ha.bytes hb.bytes (by rw [ha.len, hb.len]) (fun q hq => by rw [ha.len] at hq; rw [ha.bit q hq, hb.bit q hq])
theorem IsPack.zeros (n : Nat) : IsPack (fun _ => false) n (List.replicate n 0) where
  len := by simp
  bytes := fun x hx => by rw [List.eq_of_mem_replicate hx]; omega
  bit := fun q hq => by
    unfold pbit
    rw [rd_nat, List.getD_eq_getElem?_getD, List.getElem?_replicate]
    split <;> simp
theorem IsPack.set {B : Nat → Bool} {n : Nat} {b : List Int} (h : IsPack B n b) {p : Nat} (hp : p < 8 * n) (v : Bool) : IsPack (fun q => if q = p then B p || v else B q) n (setb b p v) where
  len := by rw [setb_length, h.len]
  bytes := setb_bytes h.bytes p v
  bit := fun q hq => by rw [pbit_setb v q (by rw [h.len]; exact hp), h.bit q hq, h.bit p hp]
theorem IsPack.congr {B C : Nat → Bool} {n : Nat} {b : List Int} (h : IsPack B n b) (hc : ∀ q, q < 8 * n → B q = C q) : IsPack C n b := ⟨h.len, h.bytes, fun q hq => (h.bit q hq).trans (hc q hq)⟩
/-- A text is its own bits. -/
theorem IsPack.self {b : List Int} (hb : Bytes b) : IsPack (pbit b) b.length b := ⟨rfl, hb, fun _ _ => rfl⟩

/-! ### A bit of a number, as the code asks -/
theorem bit_and (n : Nat) (hn : n < 18446744073709551616) (j : Nat) (hj : j ≤ 64) : Go.bits .and .u64 (shr .u64 (n : Int) (j : Int)) 1 = ((n.testBit j).toNat : Int) := by
  have e : shr .u64 (n : Int) (j : Int) = ((n / 2 ^ j : Nat) : Int) := by
    unfold shr
    rw [Int.toNat_natCast, show IntKind.u64.bits = 64 from rfl, Nat.min_eq_left hj]
    norm_cast
  rw [e, show (1 : Int) = ((1 : Nat) : Int) from rfl, u64_and_nat _ _ (Nat.lt_of_le_of_lt (Nat.div_le_self _ _) hn) (by decide), nat_mask1, Nat.testBit_eq_decide_div_mod_eq]
  rcases Nat.mod_two_eq_zero_or_one (n / 2 ^ j) with h | h <;> simp [h]
theorem bit_mod (n : Nat) (j : Nat) (k : IntKind) (hj : j ≤ k.bits) : (Int.tmod (shr k (n : Int) (j : Int)) 2 == 1) = n.testBit j := by
  have e : shr k (n : Int) (j : Int) = ((n / 2 ^ j : Nat) : Int) := by
    unfold shr
    rw [Int.toNat_natCast, Nat.min_eq_left hj]
    norm_cast
  rw [e, Int.tmod_eq_emod_of_nonneg (Int.natCast_nonneg _), Nat.testBit_eq_decide_div_mod_eq]
  rcases Nat.mod_two_eq_zero_or_one (n / 2 ^ j) with h | h
  · rw [show (((n / 2 ^ j : Nat) : Int) % 2) = ((n / 2 ^ j % 2 : Nat) : Int) by omega, h]; rfl
  · rw [show (((n / 2 ^ j : Nat) : Int) % 2) = ((n / 2 ^ j % 2 : Nat) : Int) by omega, h]; rfl
theorem i64_wrap (n : Int) : IntKind.i64.wrap n = wrap64 n := by
  simp [IntKind.wrap, IntKind.bits, IntKind.signed, wrap64]
  split <;> omega
theorem and7 (p : Nat) (hp : p < 1000000000) : Go.bits .and .i64 (p : Int) 7 = ((p % 8 : Nat) : Int) := by
  show IntKind.i64.wrap ((((BitVec.ofInt 64 (p : Int)) &&& (BitVec.ofInt 64 7)).toNat : Nat) : Int) = _
  rw [BitVec.toNat_and, BitVec.ofInt_natCast, BitVec.toNat_ofNat, Nat.mod_eq_of_lt (show p < 2 ^ 64 by omega), show (BitVec.ofInt 64 7).toNat = 7 from by decide, nat_mask3, i64_wrap]
  exact wrap_same (by omega) (by omega)
/-- What the code stores is one bit put. -/
theorem put_bit {b : List Int} (hb : Bytes b) (p : Nat) (hp : p / 8 < b.length) (v : Bool) :
    b.set ((((p / 8 : Nat) : Int)).toNat) (Go.bits .or .u8 (rd b ((p / 8 : Nat) : Int)) (shl .u8 ((v.toNat : Int) % 256) ((7 - p % 8 : Nat) : Int))) = setb b p v := by
  obtain ⟨h0, h1⟩ := Bytes.rd hb (p / 8) hp
  have e : shl .u8 ((v.toNat : Int) % 256) ((7 - p % 8 : Nat) : Int) = ((v.toNat <<< (7 - p % 8) : Nat) : Int) := by
    have : ∀ v : Bool, ∀ j : Nat, j < 8 → shl .u8 ((v.toNat : Int) % 256) (j : Int) = ((v.toNat <<< j : Nat) : Int) := by decide
    exact this v _ (by omega)
  have hl : v.toNat <<< (7 - p % 8) < 256 := by
    have : ∀ v : Bool, ∀ j : Nat, j < 8 → v.toNat <<< j < 256 := by decide
    exact this v _ (by omega)
  rw [e, u8_or _ _ h0 h1 (Int.natCast_nonneg _) (Int.ofNat_lt.mpr hl), setb, Int.toNat_natCast, Int.toNat_natCast]
end Go.Proofs.Ytlppmamhbpcfcaa.PlaneBits
