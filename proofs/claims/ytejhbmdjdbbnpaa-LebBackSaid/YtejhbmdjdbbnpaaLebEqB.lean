/- How long a code is, told by a number's bits, and texts compared; conditions: numbers of 64 bits, bytes. -/
import Derived.Test.YtejhbmdjdbbnpaaMLebx4
import Derived.Test.YtejhbmdjdbbnpaaLebEqA
namespace Go.Proofs.Ytejhbmdjdbbnpaa.LebEq
open Go.RowKit Go.Proofs.Ytejhbmdjdbbnpaa.MLeb Go.Proofs.Ytejhbmdjdbbnpaa.DrawPlain Go.Proofs.Ytejhbmdjdbbnpaa.LebPlain Go.Proofs.YtejhbmdjdbbnpaaW.PrintWords Go.Proofs.YtejhbmdjdbbnpaaW.PrintLast Go.Proofs.YtejhbmdjdbbnpaaW.PrintMore
set_option linter.unusedVariables false
set_option linter.unusedSimpArgs false

/-- How many bits a number has. -/
def blenF : Nat → Nat → Nat
  | 0, _ => 0
  | k + 1, n => if n = 0 then 0 else blenF k (n / 2) + 1
def blen (n : Nat) : Nat := blenF 64 n
theorem blenF_zero (k : Nat) : blenF k 0 = 0 := by cases k <;> simp [blenF]
theorem blenF_more (k : Nat) : ∀ n j : Nat, n < 2 ^ k → k ≤ j → blenF j n = blenF k n := by
  induction k with
  | zero =>
    intro n j hn _
    obtain rfl : n = 0 := by simpa using hn
    rw [blenF_zero, blenF_zero]
  | succ k ih =>
    intro n j hn hj
    obtain ⟨j, rfl⟩ : ∃ m, j = m + 1 := ⟨j - 1, by omega⟩
    simp only [blenF]
    rw [Nat.pow_succ] at hn
    rw [ih (n / 2) j (by omega) (by omega)]
theorem blen_half {n : Nat} (h0 : 0 < n) (h : n < 18446744073709551616) : blen n = blen (n / 2) + 1 := by
  unfold blen
  rw [show blenF 64 n = blenF 63 (n / 2) + 1 from by rw [blenF, if_neg (by omega)]]
  rw [blenF_more 63 (n / 2) 64 (by omega) (by omega)]
theorem blen_shift (s : Nat) : ∀ n : Nat, 2 ^ s ≤ n → n < 18446744073709551616 → blen n = blen (n / 2 ^ s) + s := by
  induction s with
  | zero => intro n _ _; simp
  | succ s ih =>
    intro n h h1
    have hp := Nat.two_pow_pos s
    rw [Nat.pow_succ] at h
    rw [blen_half (by omega) h1, ih (n / 2) (by omega) (by omega), Nat.div_div_eq_div_mul, Nat.pow_succ, Nat.mul_comm 2]
    omega
theorem blen_le (s : Nat) : ∀ n : Nat, n < 2 ^ s → s ≤ 64 → blen n ≤ s := by
  induction s with
  | zero =>
    intro n h _
    obtain rfl : n = 0 := by simpa using h
    exact Nat.le_of_eq (blenF_zero 64)
  | succ s ih =>
    intro n h hs
    rcases Nat.eq_zero_or_pos n with rfl | h0
    · rw [show blen 0 = 0 from blenF_zero 64]
      omega
    · have hlt : n < 18446744073709551616 := Nat.lt_of_lt_of_le h (Nat.pow_le_pow_right (n := 2) (by decide) hs)
      rw [blen_half h0 hlt]
      rw [Nat.pow_succ] at h
      have := ih (n / 2) (by omega) (by omega)
      omega
theorem blen_pos {n : Nat} (h0 : 0 < n) (h : n < 18446744073709551616) : 0 < blen n := by
  rw [blen_half h0 h]
  omega

theorem tab_ok : ∀ i : Nat, i < 256 → bt (⟨#[0, 1, 2, 2, 3, 3, 3, 3, 4, 4, 4, 4, 4, 4, 4, 4, 5, 5, 5, 5, 5, 5, 5, 5, 5, 5, 5, 5, 5, 5, 5, 5, 6, 6, 6, 6, 6, 6, 6, 6, 6, 6, 6, 6, 6, 6, 6, 6, 6, 6, 6, 6, 6, 6, 6, 6, 6, 6, 6, 6, 6, 6, 6, 6, 7, 7, 7, 7, 7, 7, 7, 7, 7, 7, 7, 7, 7, 7, 7, 7, 7, 7, 7, 7, 7, 7, 7, 7, 7, 7, 7, 7, 7, 7, 7, 7, 7, 7, 7, 7, 7, 7, 7, 7, 7, 7, 7, 7, 7, 7, 7, 7, 7, 7, 7, 7, 7, 7, 7, 7, 7, 7, 7, 7, 7, 7, 7, 7, 8, 8, 8, 8, 8, 8, 8, 8, 8, 8, 8, 8, 8, 8, 8, 8, 8, 8, 8, 8, 8, 8, 8, 8, 8, 8, 8, 8, 8, 8, 8, 8, 8, 8, 8, 8, 8, 8, 8, 8, 8, 8, 8, 8, 8, 8, 8, 8, 8, 8, 8, 8, 8, 8, 8, 8, 8, 8, 8, 8, 8, 8, 8, 8, 8, 8, 8, 8, 8, 8, 8, 8, 8, 8, 8, 8, 8, 8, 8, 8, 8, 8, 8, 8, 8, 8, 8, 8, 8, 8, 8, 8, 8, 8, 8, 8, 8, 8, 8, 8, 8, 8, 8, 8, 8, 8, 8, 8, 8, 8, 8, 8, 8, 8, 8, 8, 8, 8, 8, 8, 8, 8, 8, 8, 8, 8, 8, 8]⟩ : ByteArray) (i : Int) = (blen i : Int) := by decide +kernel
theorem tab_int {x : Int} (h0 : 0 ≤ x) (h : x < 256) (t : ByteArray) (ht : ∀ i : Nat, i < 256 → bt t (i : Int) = (blen i : Int)) : bt t x = (blen x.toNat : Int) := by
  have := ht x.toNat (by omega)
  rwa [Int.toNat_of_nonneg h0] at this

set_option maxRecDepth 100000 in
theorem len_j0 (k : Nat) (hk : 1 ≤ k) (n : Nat) (hn : n < 4294967296) (a : Int) (ha0 : 0 ≤ a) (ha : a ≤ 64) : bits_Len64.j0 k (n : Int) a = some (a + (blen n : Int)) := by
  obtain ⟨k, rfl⟩ : ∃ m, k = m + 1 := ⟨k - 1, by omega⟩
  rw [bits_Len64.j0]
  have hb : ∀ m : Nat, m < 256 → blen m ≤ 8 := fun m hm => blen_le 8 m hm (by decide)
  by_cases h1 : n < 65536
  · rw [if_neg (by omega)]
    by_cases h2 : n < 256
    · rw [if_neg (by omega), show (n : Int) % 256 = (n : Int) by omega, if_pos (by omega), if_pos (by omega), tab_ok n h2]
      have := hb n h2
      rw [wrap_same (i := (blen n : Int)) (by omega) (by omega), wrap_same (by omega) (by omega)]
    · rw [if_pos (by omega), show (n : Int) / 256 % 256 = ((n / 256 : Nat) : Int) by omega, if_pos (by omega), if_pos (by omega), tab_ok (n / 256) (by omega)]
      have e := blen_shift 8 n (by omega) (by omega)
      rw [show (2 : Nat) ^ 8 = 256 from rfl] at e
      have := hb (n / 256) (by omega)
      rw [wrap_same (i := (blen (n / 256) : Int)) (by omega) (by omega), wrap_same (i := a + 8) (by omega) (by omega), wrap_same (by omega) (by omega), e]
      congr 1
      omega
  · rw [if_pos (by omega)]
    by_cases h2 : n / 65536 < 256
    · rw [if_neg (by omega), show (n : Int) / 65536 % 256 = ((n / 65536 : Nat) : Int) by omega, if_pos (by omega), if_pos (by omega), tab_ok (n / 65536) (by omega)]
      have e := blen_shift 16 n (by omega) (by omega)
      rw [show (2 : Nat) ^ 16 = 65536 from rfl] at e
      have := hb (n / 65536) (by omega)
      rw [wrap_same (i := (blen (n / 65536) : Int)) (by omega) (by omega), wrap_same (i := a + 16) (by omega) (by omega), wrap_same (by omega) (by omega), e]
      congr 1
      omega
    · rw [if_pos (by omega), show (n : Int) / 65536 / 256 % 256 = ((n / 16777216 : Nat) : Int) by omega, if_pos (by omega), if_pos (by omega), tab_ok (n / 16777216) (by omega)]
      have e := blen_shift 24 n (by omega) (by omega)
      rw [show (2 : Nat) ^ 24 = 16777216 from rfl] at e
      have := hb (n / 16777216) (by omega)
      rw [wrap_same (i := (blen (n / 16777216) : Int)) (by omega) (by omega), wrap_same (i := a + 16) (by omega) (by omega), wrap_same (i := a + 16 + 8) (by omega) (by omega), wrap_same (by omega) (by omega), e]
      congr 1
      omega
theorem len_f (k : Nat) (hk : 1 ≤ k) (n : Nat) (hn : n < 18446744073709551616) : bits_Len64.f k (n : Int) = some (blen n : Int) := by
  simp only [bits_Len64.f]
  by_cases h : n < 4294967296
  · rw [if_neg (by omega), len_j0 k hk n h 0 (by omega) (by omega)]
    congr 1
    omega
  · rw [if_pos (by omega), show (n : Int) / 4294967296 = ((n / 4294967296 : Nat) : Int) by omega, len_j0 k hk _ (by omega) 32 (by omega) (by omega)]
    have e := blen_shift 32 n (by omega) (by omega)
    rw [show (2 : Nat) ^ 32 = 4294967296 from rfl] at e
    rw [e]
    congr 1
    omega

theorem or_one_half (n : Nat) : (n ||| 1) / 2 = n / 2 := by
  have : (n ||| 1) >>> 1 = n >>> 1 ||| 1 >>> 1 := Nat.shiftRight_or_distrib
  simpa [Nat.shiftRight_eq_div_pow] using this
theorem or_one_pos (n : Nat) : 0 < n ||| 1 := Nat.lt_of_lt_of_le (by decide) (Nat.right_le_or (n := n) (m := 1))
theorem or_one_lt {n : Nat} (h : n < 18446744073709551616) : n ||| 1 < 18446744073709551616 := Nat.or_lt_two_pow (n := 64) (by omega) (by decide)
theorem blen_or_one {n : Nat} (h0 : 0 < n) (h : n < 18446744073709551616) : blen (n ||| 1) = blen n := by
  rw [blen_half (or_one_pos n) (or_one_lt h), blen_half h0 h, or_one_half]

theorem code_len (j : Nat) : ∀ n : Nat, (codeS n).length ≤ j → 0 < n → n < 18446744073709551616 → (codeS n).length = (blen n + 6) / 7 := by
  induction j with
  | zero => intro n h; have := codeS_pos n; omega
  | succ j ih =>
    intro n hj h0 h1
    by_cases hn : n < 128
    · rw [codeS_small hn]
      have := blen_le 7 n hn (by decide)
      have := blen_pos h0 h1
      simp only [List.length_cons, List.length_nil]
      omega
    · rw [codeS_big hn] at hj ⊢
      simp only [List.length_cons] at hj ⊢
      have e := blen_shift 7 n (by omega) h1
      rw [show (2 : Nat) ^ 7 = 128 from rfl] at e
      rw [ih (n / 128) (by omega) (by omega) (by omega), e]
      omega
theorem size_f (k : Nat) (hk : 1 ≤ k) (x : Int) (h0 : 0 ≤ x) (h1 : x < 18446744073709551616) : leb_Size.f k x = some ((codeI x).length : Int) := by
  obtain ⟨n, rfl⟩ := Int.eq_ofNat_of_zero_le h0
  have hb : blen (n ||| 1) ≤ 64 := blen_le 64 _ (or_one_lt (by omega)) (by decide)
  simp only [leb_Size.f]
  rw [or_one n (by omega), len_f k hk _ (or_one_lt (by omega))]
  simp only [bindS]
  have e : (codeI (n : Int)).length = (blen (n ||| 1) + 6) / 7 := by
    rw [codeI, Int.toNat_natCast]
    rcases Nat.eq_zero_or_pos n with rfl | hp
    · rw [codeS_small (by omega)]
      rfl
    · rw [blen_or_one hp (by omega), code_len _ n (Nat.le_refl _) hp (by omega)]
  rw [wrap_same (i := (blen (n ||| 1) : Int) + 6) (by omega) (by omega), Int.tdiv_eq_ediv_of_nonneg (by omega), wrap_same (by omega) (by omega), e]
  congr 1

theorem byte_inj {x y : Int} (hx : 0 ≤ x ∧ x < 256) (hy : 0 ≤ y ∧ y < 256) (h : UInt8.ofNat x.toNat = UInt8.ofNat y.toNat) : x = y := by
  have := congrArg UInt8.toNat h
  simp at this
  omega
theorem bytes_inj (a : List Int) : ∀ b : List Int, Bytes a → Bytes b → (a.map fun n => UInt8.ofNat n.toNat) = (b.map fun n => UInt8.ofNat n.toNat) → a = b := by
  induction a with
  | nil =>
    intro b _ _ h
    cases b with
    | nil => rfl
    | cons y b => simp at h
  | cons x a ih =>
    intro b ha hb h
    cases b with
    | nil => simp at h
    | cons y b =>
      simp only [List.map_cons, List.cons.injEq] at h
      rw [byte_inj (ha x List.mem_cons_self) (hb y List.mem_cons_self) h.1, ih b (fun z hz => ha z (List.mem_cons_of_mem _ hz)) (fun z hz => hb z (List.mem_cons_of_mem _ hz)) h.2]
theorem same_f (a b : List Int) (ha : Bytes a) (hb : Bytes b) : thrumref03_Same.f a b = some (decide (a = b)) := by
  simp only [thrumref03_Same.f, strOfNums, ByteArray.toList_mk]
  congr 1
  rw [Bool.eq_iff_iff, beq_iff_eq, decide_eq_true_eq]
  exact ⟨bytes_inj a b ha hb, fun h => by rw [h]⟩
end Go.Proofs.Ytejhbmdjdbbnpaa.LebEq
