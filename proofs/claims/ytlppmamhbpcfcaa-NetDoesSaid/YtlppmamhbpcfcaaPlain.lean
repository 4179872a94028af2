/- Plain facts on whole numbers in words and lists of them, on how many bits a number has, and on texts of bytes; conditions as typed. -/
import Derived.Test.YtlppmamhbpcfcaaWWords
import Derived.Test.YtlppmamhbpcfcaaWMore
import Derived.Laws.BitsAllLaws
namespace Go.Proofs.Ytlppmamhbpcfcaa.Plain
open Go.RowKit Go.Proofs.YtlppmamhbpcfcaaW.PrintWords Go.Proofs.YtlppmamhbpcfcaaW.PrintMore
/-- As Option.bind_some, but by a proof: nothing is left to the kernel's own unfolding. -/
theorem bindS {α β : Type} (a : α) (f : α → Option β) : (some a).bind f = f a := by rw [Option.bind_some]

theorem u64_wrap (n : Int) : IntKind.u64.wrap n = n % 18446744073709551616 := by simp [IntKind.wrap, IntKind.bits, IntKind.signed]
theorem u64_pos (n : Int) : 0 ≤ IntKind.u64.wrap n := by rw [u64_wrap]; omega
theorem u64_lt (n : Int) : IntKind.u64.wrap n < 18446744073709551616 := by rw [u64_wrap]; omega
theorem u64_same {n : Int} (h0 : 0 ≤ n) (h : n < 18446744073709551616) : IntKind.u64.wrap n = n := by rw [u64_wrap]; omega
theorem wf_u64 {n : Int} (h : (Lit.int .u64 n).wf = true) : 0 ≤ n ∧ n < 18446744073709551616 := by
  simp only [Lit.wf, IntKind.min, IntKind.max, IntKind.signed, IntKind.bits, Bool.and_eq_true] at h
  simp at h
  omega
theorem wf_i64 {n : Int} (h : (Lit.int .i64 n).wf = true) : -9223372036854775808 ≤ n ∧ n < 9223372036854775808 := by
  simp only [Lit.wf, IntKind.min, IntKind.max, IntKind.signed, IntKind.bits, Bool.and_eq_true] at h
  simp at h
  omega

theorem wrap_same {i : Int} (h0 : -9223372036854775808 ≤ i) (h : i < 9223372036854775808) : wrap64 i = i := by
  unfold wrap64
  omega
theorem wrap_next {i : Int} {n : Nat} (h0 : 0 ≤ i) (h : i < (n : Int)) (hn : n ≤ maxLen) : wrap64 (i + 1) = i + 1 := by
  unfold maxLen at hn
  unfold wrap64
  omega

theorem rd_nat (l : List Int) (i : Nat) : rd l (i : Int) = l.getD i 0 := rfl
theorem rd_drop (l : List Int) (i : Nat) (h : i < l.length) : l.drop i = rd l (i : Int) :: l.drop (i + 1) := by
  rw [List.drop_eq_getElem_cons h]
  congr 1
  simp [rd, List.getD_eq_getElem?_getD, List.getElem?_eq_getElem h]
theorem rd_set (l : List Int) (a b : Nat) (v : Int) (ha : a < l.length) : rd (l.set a v) (b : Int) = if a = b then v else rd l (b : Int) := by
  simp only [rd_nat, List.getD_eq_getElem?_getD, List.getElem?_set, ha, if_true]
  split <;> simp_all
theorem rd_ext {l l' : List Int} (hl : l.length = l'.length) (h : ∀ i : Nat, i < l.length → rd l (i : Int) = rd l' (i : Int)) : l = l' := by
  apply List.ext_getElem hl
  intro i h1 h2
  have := h i h1
  simpa [rd_nat, List.getD_eq_getElem?_getD, List.getElem?_eq_getElem h1, List.getElem?_eq_getElem h2] using this

theorem wf_u8 {n : Int} (h : (Lit.int .u8 n).wf = true) : 0 ≤ n ∧ n < 256 := by
  simp only [Lit.wf, IntKind.min, IntKind.max, IntKind.signed, IntKind.bits, Bool.and_eq_true] at h
  simp at h
  omega
/-- How many bits a number has. -/
def blenF : Nat → Nat → Nat
  | 0, _ => 0
  | k + 1, n => if n = 0 then 0 else blenF k (n / 2) + 1
def blen (n : Nat) : Nat := blenF 64 n
theorem blenF_zero (k : Nat) : blenF k 0 = 0 := by cases k <;> simp [blenF]
theorem blenF_more (k : Nat) : ∀ n j : Nat, n < 2 ^ k → k ≤ j → blenF j n = blenF k n := by
  induction k with
  | zero =>
    intro n j hn _
    obtain rfl : n = 0 := by simpa using hn
    rw [blenF_zero, blenF_zero]
  | succ k ih =>
    intro n j hn hj
    obtain ⟨j, rfl⟩ : ∃ m, j = m + 1 := ⟨j - 1, by omega⟩
    simp only [blenF]
    rw [Nat.pow_succ] at hn
    rw [ih (n / 2) j (by omega) (by omega)]
theorem blen_half {n : Nat} (h0 : 0 < n) (h : n < 18446744073709551616) : blen n = blen (n / 2) + 1 := by
  unfold blen
  rw [show blenF 64 n = blenF 63 (n / 2) + 1 from by rw [blenF, if_neg (by omega)]]
  rw [blenF_more 63 (n / 2) 64 (by omega) (by omega)]
theorem blen_shift (s : Nat) : ∀ n : Nat, 2 ^ s ≤ n → n < 18446744073709551616 → blen n = blen (n / 2 ^ s) + s := by
  induction s with
  | zero => intro n _ _; simp
  | succ s ih =>
    intro n h h1
    have hp := Nat.two_pow_pos s
    rw [Nat.pow_succ] at h
    rw [blen_half (by omega) h1, ih (n / 2) (by omega) (by omega), Nat.div_div_eq_div_mul, Nat.pow_succ, Nat.mul_comm 2]
    omega
theorem blen_le (s : Nat) : ∀ n : Nat, n < 2 ^ s → s ≤ 64 → blen n ≤ s := by
  induction s with
  | zero =>
    intro n h _
    obtain rfl : n = 0 := by simpa using h
    exact Nat.le_of_eq (blenF_zero 64)
  | succ s ih =>
    intro n h hs
    rcases Nat.eq_zero_or_pos n with rfl | h0
    · rw [show blen 0 = 0 from blenF_zero 64]
      omega
    · have hlt : n < 18446744073709551616 := Nat.lt_of_lt_of_le h (Nat.pow_le_pow_right (n := 2) (by decide) hs)
      rw [blen_half h0 hlt]
      rw [Nat.pow_succ] at h
      have := ih (n / 2) (by omega) (by omega)
      omega
theorem blen_pos {n : Nat} (h0 : 0 < n) (h : n < 18446744073709551616) : 0 < blen n := by
  rw [blen_half h0 h]
  omega

def Bytes (l : List Int) : Prop := ∀ x ∈ l, 0 ≤ x ∧ x < 256
def Words (l : List Int) : Prop := ∀ x ∈ l, 0 ≤ x ∧ x < 18446744073709551616
theorem Words.rd {l : List Int} (h : Words l) (i : Nat) (hi : i < l.length) : 0 ≤ rd l (i : Int) ∧ rd l (i : Int) < 18446744073709551616 := by
  have e : Go.Proofs.YtlppmamhbpcfcaaW.PrintWords.rd l (i : Int) = l[i] := by simp [rd_nat, List.getD_eq_getElem?_getD, List.getElem?_eq_getElem hi]
  rw [e]
  exact h _ (List.getElem_mem hi)
theorem Bytes.rd {l : List Int} (h : Bytes l) (i : Nat) (hi : i < l.length) : 0 ≤ rd l (i : Int) ∧ rd l (i : Int) < 256 := by
  have e : Go.Proofs.YtlppmamhbpcfcaaW.PrintWords.rd l (i : Int) = l[i] := by simp [rd_nat, List.getD_eq_getElem?_getD, List.getElem?_eq_getElem hi]
  rw [e]
  exact h _ (List.getElem_mem hi)

theorem byte_inj {x y : Int} (hx : 0 ≤ x ∧ x < 256) (hy : 0 ≤ y ∧ y < 256) (h : UInt8.ofNat x.toNat = UInt8.ofNat y.toNat) : x = y := by
  have := congrArg UInt8.toNat h
  simp at this
  omega
theorem bytes_inj (a : List Int) : ∀ b : List Int, Bytes a → Bytes b → (a.map fun n => UInt8.ofNat n.toNat) = (b.map fun n => UInt8.ofNat n.toNat) → a = b := by
  induction a with
  | nil =>
    intro b _ _ h
    cases b with
    | nil => rfl
    | cons y b => simp at h
  | cons x a ih =>
    intro b ha hb h
    cases b with
    | nil => simp at h
    | cons y b =>
      simp only [List.map_cons, List.cons.injEq] at h
      rw [byte_inj (ha x List.mem_cons_self) (hb y List.mem_cons_self) h.1, ih b (fun z hz => ha z (List.mem_cons_of_mem _ hz)) (fun z hz => hb z (List.mem_cons_of_mem _ hz)) h.2]
end Go.Proofs.Ytlppmamhbpcfcaa.Plain
