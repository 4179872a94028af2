/- Plain facts on the draws of layer 8: stirring in and ending lose nothing: two seeds, or two numbers, give two draws; conditions: all are of 64 bits. -/
import Derived.Test.YtejhbmdjdbbnpaaDraw
namespace Go.Proofs.Ytejhbmdjdbbnpaa.DrawPlain
open Go.RowKit Go.Proofs.YtejhbmdjdbbnpaaW.PrintWords

theorem xor_nat (a b : Nat) (ha : a < 18446744073709551616) (hb : b < 18446744073709551616) : Go.bits .xor .u64 (a : Int) (b : Int) = ((a ^^^ b : Nat) : Int) := by
  have hl : a ^^^ b < 2 ^ 64 := Nat.xor_lt_two_pow (by omega) (by omega)
  show IntKind.u64.wrap ((((BitVec.ofInt 64 (a : Int)) ^^^ (BitVec.ofInt 64 (b : Int))).toNat : Nat) : Int) = _
  rw [BitVec.toNat_xor, BitVec.ofInt_natCast, BitVec.ofInt_natCast, BitVec.toNat_ofNat, BitVec.toNat_ofNat, Nat.mod_eq_of_lt (show a < 2 ^ 64 by omega), Nat.mod_eq_of_lt (show b < 2 ^ 64 by omega)]
  exact u64_same (by omega) (by omega)

theorem xor_cancel {a b c : Nat} (h : a ^^^ c = b ^^^ c) : a = b := by
  have := congrArg (fun x => x ^^^ c) h
  simpa [Nat.xor_assoc] using this

theorem xor_zero_eq {a b : Nat} (h : a ^^^ b = 0) : a = b := by
  have h1 : (a ^^^ b) ^^^ b = 0 ^^^ b := by rw [h]
  simpa [Nat.xor_assoc] using h1

/-- What is folded onto itself from above is told by what comes of it. -/
theorem fold_inj {a b s : Nat} (hs : 1 ≤ s) (h : a ^^^ (a / 2 ^ s) = b ^^^ (b / 2 ^ s)) : a = b := by
  apply xor_zero_eq
  have e : a ^^^ b = (a ^^^ b) / 2 ^ s := by
    have h1 : (a ^^^ b) / 2 ^ s = (a / 2 ^ s) ^^^ (b / 2 ^ s) := by
      rw [← Nat.shiftRight_eq_div_pow, ← Nat.shiftRight_eq_div_pow, ← Nat.shiftRight_eq_div_pow, Nat.shiftRight_xor_distrib]
    rw [h1]
    have h2 : (a ^^^ (a / 2 ^ s)) ^^^ (b ^^^ (b / 2 ^ s)) = 0 := by rw [h, Nat.xor_self]
    have h3 : (a ^^^ b) ^^^ ((a / 2 ^ s) ^^^ (b / 2 ^ s)) = 0 := by
      rw [← h2]
      ac_rfl
    exact xor_zero_eq h3
  generalize a ^^^ b = d at *
  have h2 : 2 ≤ 2 ^ s := by
    calc 2 = 2 ^ 1 := rfl
      _ ≤ 2 ^ s := Nat.pow_le_pow_right (by decide) hs
  rcases Nat.eq_zero_or_pos d with h0 | h0
  · exact h0
  · have := Nat.div_lt_self h0 h2
    omega

theorem mul_inj {a b C D q : Nat} (hC : C * D = 1 + 18446744073709551616 * q) (ha : a < 18446744073709551616) (hb : b < 18446744073709551616) (h : a * C % 18446744073709551616 = b * C % 18446744073709551616) : a = b := by
  have key : ∀ x : Nat, x < 18446744073709551616 → x * C % 18446744073709551616 * D % 18446744073709551616 = x := by
    intro x hx
    rw [Nat.mod_mul_mod, Nat.mul_assoc, hC, Nat.mul_add, Nat.mul_one, ← Nat.mul_assoc, Nat.mul_comm x, Nat.mul_assoc, Nat.add_mul_mod_self_left, Nat.mod_eq_of_lt hx]
  rw [← key a ha, ← key b hb, h]

theorem mul_nat (a C : Nat) : IntKind.u64.wrap ((a : Int) * (C : Int)) = ((a * C % 18446744073709551616 : Nat) : Int) := by
  rw [u64_wrap]
  omega

theorem nat_of {x : Int} (h0 : 0 ≤ x) (h : x < 18446744073709551616) : ∃ a : Nat, x = (a : Int) ∧ a < 18446744073709551616 := ⟨x.toNat, by omega, by omega⟩

/-- A draw's end, in natural numbers. -/
def endN (a : Nat) : Nat := (a * 13787848793156543929 % 18446744073709551616) ^^^ (a * 13787848793156543929 % 18446744073709551616) / 2 ^ 32
def withN (a c : Nat) : Nat := ((a ^^^ c) * 11400714819323198485 % 18446744073709551616) ^^^ ((a ^^^ c) * 11400714819323198485 % 18446744073709551616) / 2 ^ 29

theorem end_nat (a : Nat) : endS (a : Int) = (endN a : Int) := by
  unfold endS endN
  have h := mul_nat a 13787848793156543929
  rw [show ((13787848793156543929 : Nat) : Int) = (13787848793156543929 : Int) from rfl] at h
  rw [h]
  have hl := Nat.mod_lt (a * 13787848793156543929) (show 0 < 18446744073709551616 by decide)
  generalize a * 13787848793156543929 % 18446744073709551616 = m at *
  rw [show (m : Int) / 4294967296 = ((m / 2 ^ 32 : Nat) : Int) by omega]
  exact xor_nat _ _ hl (by omega)

theorem with_nat (a c : Nat) (n : Int) (ha : a < 18446744073709551616) (hn : IntKind.u64.wrap n = (c : Int)) (hc : c < 18446744073709551616) : withS (a : Int) n = (withN a c : Int) := by
  unfold withS withN
  rw [hn, xor_nat a c ha hc]
  have h := mul_nat (a ^^^ c) 11400714819323198485
  rw [show ((11400714819323198485 : Nat) : Int) = (11400714819323198485 : Int) from rfl] at h
  rw [h]
  have hl := Nat.mod_lt ((a ^^^ c) * 11400714819323198485) (show 0 < 18446744073709551616 by decide)
  generalize (a ^^^ c) * 11400714819323198485 % 18446744073709551616 = m at *
  rw [show (m : Int) / 536870912 = ((m / 2 ^ 29 : Nat) : Int) by omega]
  exact xor_nat _ _ hl (by omega)

theorem endN_inj {a b : Nat} (ha : a < 18446744073709551616) (hb : b < 18446744073709551616) (h : endN a = endN b) : a = b :=
  mul_inj (C := 13787848793156543929) (D := 10871156337175269513) (q := 8125545580553827436) (by decide) ha hb (fold_inj (by decide) h)

theorem withN_inj {a b c d : Nat} (ha : a < 18446744073709551616) (hb : b < 18446744073709551616) (hc : c < 18446744073709551616) (hd : d < 18446744073709551616) (h : withN a c = withN b d) : a ^^^ c = b ^^^ d :=
  mul_inj (C := 11400714819323198485) (D := 17428512612931826493) (q := 10771413168148108919) (by decide)
    (Nat.lt_of_lt_of_eq (Nat.xor_lt_two_pow (n := 64) (by omega) (by omega)) (by decide)) (Nat.lt_of_lt_of_eq (Nat.xor_lt_two_pow (n := 64) (by omega) (by omega)) (by decide)) (fold_inj (by decide) h)

theorem endS_inj {x y : Int} (hx0 : 0 ≤ x) (hx : x < 18446744073709551616) (hy0 : 0 ≤ y) (hy : y < 18446744073709551616) (h : endS x = endS y) : x = y := by
  obtain ⟨a, rfl, ha⟩ := nat_of hx0 hx
  obtain ⟨b, rfl, hb⟩ := nat_of hy0 hy
  rw [end_nat, end_nat] at h
  rw [endN_inj ha hb (by omega)]

theorem withS_inj_left {x y n : Int} (hx0 : 0 ≤ x) (hx : x < 18446744073709551616) (hy0 : 0 ≤ y) (hy : y < 18446744073709551616) (h : withS x n = withS y n) : x = y := by
  obtain ⟨a, rfl, ha⟩ := nat_of hx0 hx
  obtain ⟨b, rfl, hb⟩ := nat_of hy0 hy
  obtain ⟨c, hc, hc'⟩ := nat_of (u64_pos n) (u64_lt n)
  rw [with_nat a c n ha hc hc', with_nat b c n hb hc hc'] at h
  rw [xor_cancel (withN_inj ha hb hc' hc' (by omega))]

theorem withS_inj_right {x n m : Int} (hx0 : 0 ≤ x) (hx : x < 18446744073709551616) (hn0 : -9223372036854775808 ≤ n) (hn : n < 9223372036854775808) (hm0 : -9223372036854775808 ≤ m) (hm : m < 9223372036854775808) (h : withS x n = withS x m) : n = m := by
  obtain ⟨a, rfl, ha⟩ := nat_of hx0 hx
  obtain ⟨c, hc, hc'⟩ := nat_of (u64_pos n) (u64_lt n)
  obtain ⟨d, hd, hd'⟩ := nat_of (u64_pos m) (u64_lt m)
  rw [with_nat a c n ha hc hc', with_nat a d m ha hd hd'] at h
  have e := withN_inj ha ha hc' hd' (by omega)
  rw [Nat.xor_comm a c, Nat.xor_comm a d] at e
  have e := xor_cancel e
  rw [u64_wrap] at hc hd
  omega

theorem overS_range (l : List Int) : ∀ x : Int, 0 ≤ x → x < 18446744073709551616 → 0 ≤ overS x l ∧ overS x l < 18446744073709551616 := by
  induction l with
  | nil => intro x h0 h1; exact ⟨h0, h1⟩
  | cons n l ih => intro x _ _; exact ih (withS x n) (withS_pos x n) (withS_lt x n)

theorem overS_inj (l : List Int) : ∀ x y : Int, 0 ≤ x → x < 18446744073709551616 → 0 ≤ y → y < 18446744073709551616 → overS x l = overS y l → x = y := by
  induction l with
  | nil => intro x y _ _ _ _ h; exact h
  | cons n l ih =>
    intro x y hx0 hx hy0 hy h
    exact withS_inj_left hx0 hx hy0 hy (ih (withS x n) (withS y n) (withS_pos x n) (withS_lt x n) (withS_pos y n) (withS_lt y n) h)

theorem overS_snoc (x : Int) (l : List Int) (n : Int) : overS x (l ++ [n]) = withS (overS x l) n := by simp [overS, List.foldl_append]

/-- Draws of two seeds are two. -/
theorem draw_seeds {a b : Int} (l : List Int) (ha0 : 0 ≤ a) (ha : a < 18446744073709551616) (hb0 : 0 ≤ b) (hb : b < 18446744073709551616) (h : endS (overS a l) = endS (overS b l)) : a = b :=
  overS_inj l a b ha0 ha hb0 hb (endS_inj (overS_range l a ha0 ha).1 (overS_range l a ha0 ha).2 (overS_range l b hb0 hb).1 (overS_range l b hb0 hb).2 h)

/-- Draws for two last numbers are two. -/
theorem draw_lasts {a n m : Int} (l : List Int) (ha0 : 0 ≤ a) (ha : a < 18446744073709551616) (hn0 : -9223372036854775808 ≤ n) (hn : n < 9223372036854775808) (hm0 : -9223372036854775808 ≤ m) (hm : m < 9223372036854775808)
    (h : endS (overS a (l ++ [n])) = endS (overS a (l ++ [m]))) : n = m := by
  rw [overS_snoc, overS_snoc] at h
  exact withS_inj_right (overS_range l a ha0 ha).1 (overS_range l a ha0 ha).2 hn0 hn hm0 hm (endS_inj (withS_pos _ _) (withS_lt _ _) (withS_pos _ _) (withS_lt _ _) h)

end Go.Proofs.Ytejhbmdjdbbnpaa.DrawPlain
