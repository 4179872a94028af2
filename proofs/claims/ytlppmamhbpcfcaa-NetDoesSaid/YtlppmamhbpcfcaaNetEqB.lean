/- What more functions of layer 21 come to in plain words: equality, two things underway changing places, counting, a bit turned, one twice, one dropped; conditions: texts of bytes, no longer than memory allows. -/
import Derived.Test.YtlppmamhbpcfcaaPND
import Derived.Test.YtlppmamhbpcfcaaNetEq
namespace Go.Proofs.Ytlppmamhbpcfcaa.NetEq
open Go.RowKit Go.Proofs.Ytlppmamhbpcfcaa.MNet Go.Proofs.Ytlppmamhbpcfcaa.Plain Go.Proofs.YtlppmamhbpcfcaaW.PrintWords Go.Proofs.YtlppmamhbpcfcaaW.PrintLast Go.Proofs.YtlppmamhbpcfcaaW.PrintMore
set_option linter.unusedVariables false
set_option linter.unusedSimpArgs false

theorem one_f (a0 : Int) (a1 : List Int) (b0 : Int) (b1 : List Int) (ha : Bytes a1) (hb : Bytes b1) : thrumref21_One.f a0 a1 b0 b1 = some (decide (a0 = b0 ∧ a1 = b1)) := by
  simp only [thrumref21_One.f]
  by_cases h : a0 = b0
  · rw [if_pos h]
    simp only [thrumref03_Same.f, bindS, strOfNums, ByteArray.toList_mk]
    congr 1
    rw [Bool.eq_iff_iff, beq_iff_eq, decide_eq_true_eq]
    exact ⟨fun e => ⟨h, bytes_inj a1 b1 ha hb e⟩, fun e => by rw [e.2]⟩
  · rw [if_neg h, decide_eq_false (fun e => h e.1)]
def AllBytes (l : List S40) : Prop := ∀ x ∈ l, Bytes x.f1
theorem GramsOk.bytes {l : List S40} (h : GramsOk l) : AllBytes l := fun x hx => (h x hx).2.1
instance decS40 : DecidableEq S40 := fun x y => decidable_of_iff (x.f0 = y.f0 ∧ x.f1 = y.f1) ⟨fun h => by
  obtain ⟨p0, p1⟩ := x
  obtain ⟨q0, q1⟩ := y
  simp only at h
  rw [h.1, h.2], fun h => by rw [h]; exact ⟨rfl, rfl⟩⟩
theorem same_differ (a b : List S40) (ha : AllBytes a) (hb : AllBytes b) (hl : a.length = b.length) (hn : a.length ≤ 1000000) (i : Nat) (hi : i < a.length) (hne : rd_T40 a (i : Int) ≠ rd_T40 b (i : Int)) (d : Nat) : ∀ (j F : Nat), j + d = i →
    thrumref21_Same.l0 (F + d + 1) a b (a.length : Int) (j : Int) = some false := by
  have hone : ∀ j : Nat, j < a.length → thrumref21_One.f (rd_T40 a (j : Int)).f0 (rd_T40 a (j : Int)).f1 (rd_T40 b (j : Int)).f0 (rd_T40 b (j : Int)).f1 = some (decide (rd_T40 a (j : Int) = rd_T40 b (j : Int))) := by
    intro j hj
    rw [rdT_nat a j hj, rdT_nat b j (by omega), one_f _ _ _ _ (ha _ (List.getElem_mem _)) (hb _ (List.getElem_mem _))]
    congr 1
    rw [decide_eq_decide]
    constructor
    · intro h
      cases hx : a[j]
      cases hy : b[j]
      rw [hx, hy] at h
      simp only at h
      rw [h.1, h.2]
    · intro h
      rw [h]
      exact ⟨rfl, rfl⟩
  induction d with
  | zero =>
    intro j F hj
    obtain rfl : j = i := by omega
    rw [thrumref21_Same.l0, if_pos (by omega), if_pos (by omega), if_pos (by omega), if_pos (by omega), hone j hi, bindS, decide_eq_false hne, if_neg (by decide)]
  | succ d ih =>
    intro j F hj
    rw [show F + (d + 1) + 1 = (F + d + 1) + 1 by omega, thrumref21_Same.l0, if_pos (by omega), if_pos (by omega), if_pos (by omega), if_pos (by omega), hone j (by omega), bindS]
    by_cases h : rd_T40 a (j : Int) = rd_T40 b (j : Int)
    · rw [decide_eq_true h, if_pos rfl, next_at j (by omega)]
      exact ih (j + 1) F (by omega)
    · rw [decide_eq_false h, if_neg (by decide)]
theorem same_false (k : Nat) (a b : List S40) (ha : AllBytes a) (hb : AllBytes b) (hl : a.length = b.length) (hn : a.length ≤ 1000000) (i : Nat) (hi : i < a.length) (hne : rd_T40 a (i : Int) ≠ rd_T40 b (i : Int)) (hk : a.length < k) : thrumref21_Same.f k a b = some false := by
  simp only [thrumref21_Same.f]
  rw [if_pos (by omega)]
  have := same_differ a b ha hb hl hn i hi hne i 0 (k - i - 1) (by omega)
  rw [show k - i - 1 + i + 1 = k by omega] at this
  exact this
theorem at2_f (k : Nat) (l : List S40) (n m : Int) (hk : 4 ≤ k) : net_at.f k l [n, m] = some (decide ((0 ≤ n ∧ n < (l.length : Int)) ∧ (0 ≤ m ∧ m < (l.length : Int)))) := by
  obtain ⟨k, rfl⟩ : ∃ j, k = j + 3 := ⟨k - 3, by omega⟩
  simp only [net_at.f, slices_ContainsFunc_int_int.f, slices_IndexFunc_int_int.f]
  have hr : rd [n, m] 0 = n := rfl
  have hr1 : rd [n, m] (wrap64 (0 + 1)) = m := by rw [wrap_same (by decide) (by decide)]; rfl
  have hw : wrap64 ((0 : Int) + 1) = 1 := by rw [wrap_same (by decide) (by decide)]; rfl
  have hw2 : wrap64 ((1 : Int) + 1) = 2 := by rw [wrap_same (by decide) (by decide)]; rfl
  rw [slices_IndexFunc_int_int.l0, if_pos (by simp), if_pos (by omega), if_pos (by simp), hr]
  by_cases h1 : n < 0
  · rw [if_pos h1, bindS, bindS]
    congr 1
    rw [Bool.eq_iff_iff]
    simp
    omega
  · rw [if_neg h1]
    by_cases h2 : n ≥ (l.length : Int)
    · rw [if_pos h2, bindS, bindS]
      congr 1
      rw [Bool.eq_iff_iff]
      simp
      omega
    · rw [if_neg h2, slices_IndexFunc_int_int.l0, hr1, hw, if_pos (by simp), if_pos (by omega), if_pos (by simp)]
      by_cases h3 : m < 0
      · rw [if_pos h3, bindS, bindS]
        congr 1
        rw [Bool.eq_iff_iff]
        simp
        omega
      · rw [if_neg h3]
        by_cases h4 : m ≥ (l.length : Int)
        · rw [if_pos h4, bindS, bindS]
          congr 1
          rw [Bool.eq_iff_iff]
          simp
          omega
        · rw [if_neg h4, hw2, slices_IndexFunc_int_int.l0, if_neg (by simp), bindS, bindS]
          congr 1
          rw [Bool.eq_iff_iff]
          simp
          omega
def swapS (l : List S40) (a b : Nat) : List S40 := (l.set a (rd_T40 l (b : Int))).set b (rd_T40 l (a : Int))
theorem Swap_f (k : Nat) (l : List S40) (a b : Int) (hl : Held l) (h1 : l.length ≤ 100000) (hk : 100004 < k) :
    net_Swap.f k l a b = if (0 ≤ a ∧ a < (l.length : Int)) ∧ (0 ≤ b ∧ b < (l.length : Int)) then some (swapS l a.toNat b.toNat, 0) else some (l, 1) := by
  simp only [net_Swap.f]
  rw [copied_f k l hl (by omega) (by omega), bindS, at2_f k l a b (by omega), bindS]
  by_cases h : (0 ≤ a ∧ a < (l.length : Int)) ∧ (0 ≤ b ∧ b < (l.length : Int))
  · rw [if_pos (decide_eq_true h), if_pos h.1.1, if_pos h.1.2, if_pos h.2.1, if_pos h.2.2, if_pos h]
    unfold swapS
    rw [Int.toNat_of_nonneg h.1.1, Int.toNat_of_nonneg h.2.1]
  · rw [if_neg (by simpa using h), if_neg h]
theorem rdT_set (l : List S40) (a b : Nat) (v : S40) (ha : a < l.length) : rd_T40 (l.set a v) (b : Int) = if a = b then v else rd_T40 l (b : Int) := by
  simp only [rd_T40, Int.toNat_natCast, List.getD_eq_getElem?_getD, List.getElem?_set, ha, if_true]
  split <;> simp_all
theorem rdT_ext {l l' : List S40} (hl : l.length = l'.length) (h : ∀ i : Nat, i < l.length → rd_T40 l (i : Int) = rd_T40 l' (i : Int)) : l = l' := by
  apply List.ext_getElem hl
  intro i h1 h2
  have := h i h1
  rwa [rdT_nat l i h1, rdT_nat l' i h2] at this
theorem swapS_length (l : List S40) (a b : Nat) : (swapS l a b).length = l.length := by simp [swapS]
theorem rd_swapS (l : List S40) (a b j : Nat) (ha : a < l.length) (hb : b < l.length) : rd_T40 (swapS l a b) (j : Int) = if b = j then rd_T40 l (a : Int) else if a = j then rd_T40 l (b : Int) else rd_T40 l (j : Int) := by
  unfold swapS
  rw [rdT_set _ _ _ _ (by simpa using hb)]
  split
  · rfl
  · rw [rdT_set _ _ _ _ ha]
theorem swap_twice (l : List S40) (a b : Nat) (ha : a < l.length) (hb : b < l.length) : swapS (swapS l a b) a b = l := by
  apply rdT_ext (by rw [swapS_length, swapS_length])
  intro j hj
  rw [rd_swapS _ a b j (by rw [swapS_length]; exact ha) (by rw [swapS_length]; exact hb)]
  rw [rd_swapS l a b a ha hb, rd_swapS l a b b ha hb, rd_swapS l a b j ha hb]
  by_cases h1 : b = j
  · rw [if_pos h1]
    subst h1
    by_cases h2 : b = a
    · rw [if_pos h2, h2]
    · rw [if_neg h2, if_pos rfl]
  · rw [if_neg h1]
    by_cases h2 : a = j
    · rw [if_pos h2]
      subst h2
      rw [if_pos rfl]
    · rw [if_neg h2, if_neg h1, if_neg h2]
/-- How many are to a worker. -/
def manyS (l : List S40) (who : Int) : Nat := l.countP fun x => decide (x.f0 = who)
theorem For_loop (l : List S40) (who : Int) (hn : l.length ≤ 1000000) (d : Nat) : ∀ (i F c : Nat), i + d = l.length → c ≤ i → net_For.l0 (F + d + 1) who (c : Int) l (l.length : Int) (i : Int) = some ((c + manyS (l.drop i) who : Nat) : Int) := by
  induction d with
  | zero =>
    intro i F c hi hc
    rw [net_For.l0, if_neg (by omega), List.drop_of_length_le (by omega)]
    rfl
  | succ d ih =>
    intro i F c hi hc
    have hil : i < l.length := by omega
    rw [show F + (d + 1) + 1 = (F + d + 1) + 1 by omega, net_For.l0, if_pos (by omega), if_pos (by omega), if_pos (by omega), next_at i (by omega), rdT_nat l i hil, List.drop_eq_getElem_cons hil]
    have hm : manyS (l[i] :: l.drop (i + 1)) who = manyS (l.drop (i + 1)) who + (if l[i].f0 = who then 1 else 0) := by
      unfold manyS
      rw [List.countP_cons]
      simp
    rw [hm]
    by_cases h : l[i].f0 = who
    · rw [if_pos h, next_at c (by omega), ih (i + 1) F (c + 1) (by omega) (by omega), if_pos h]
      congr 2
      omega
    · rw [if_neg h, ih (i + 1) F c (by omega) (by omega), if_neg h]
      congr 2
theorem For_f (k : Nat) (l : List S40) (who : Int) (hn : l.length ≤ 1000000) (hk : l.length < k) : net_For.f k l who = some (manyS l who : Int) := by
  have := For_loop l who hn l.length 0 (k - l.length - 1) 0 (by omega) (by omega)
  rw [show k - l.length - 1 + l.length + 1 = k by omega, List.drop_zero, Nat.zero_add] at this
  exact this
theorem many_set (l : List S40) (who : Int) (a : Nat) (v : S40) (ha : a < l.length) : manyS (l.set a v) who + (if (rd_T40 l (a : Int)).f0 = who then 1 else 0) = manyS l who + (if v.f0 = who then 1 else 0) := by
  induction l generalizing a with
  | nil => simp at ha
  | cons x l ih =>
    have hc : ∀ (y : S40) (m : List S40), manyS (y :: m) who = manyS m who + (if y.f0 = who then 1 else 0) := by
      intro y m
      unfold manyS
      rw [List.countP_cons]
      simp
    cases a with
    | zero =>
      have : rd_T40 (x :: l) ((0 : Nat) : Int) = x := rfl
      rw [List.set_cons_zero, hc, hc, this]
      omega
    | succ a =>
      have hr : rd_T40 (x :: l) ((a + 1 : Nat) : Int) = rd_T40 l (a : Int) := by simp [rd_T40]
      have := ih a (by simpa using ha)
      rw [List.set_cons_succ, hc, hc, hr]
      omega
theorem many_swap (l : List S40) (who : Int) (a b : Nat) (ha : a < l.length) (hb : b < l.length) : manyS (swapS l a b) who = manyS l who := by
  have h1 := many_set l who a (rd_T40 l (b : Int)) ha
  have h2 := many_set (l.set a (rd_T40 l (b : Int))) who b (rd_T40 l (a : Int)) (by simpa using hb)
  have h3 : rd_T40 (l.set a (rd_T40 l (b : Int))) (b : Int) = rd_T40 l (b : Int) := by
    rw [rdT_set _ _ _ _ ha]
    split <;> rfl
  rw [h3] at h2
  unfold swapS
  omega

/-! ### A bit turned -/
theorem turn_byte : ∀ x : Nat, x < 256 → ∀ j : Nat, j < 8 → (0 ≤ Go.bits .xor .u8 (x : Int) (shl .u8 1 (j : Int)) ∧ Go.bits .xor .u8 (x : Int) (shl .u8 1 (j : Int)) < 256) ∧ Go.bits .xor .u8 (Go.bits .xor .u8 (x : Int) (shl .u8 1 (j : Int))) (shl .u8 1 (j : Int)) = (x : Int) ∧ Go.bits .xor .u8 (x : Int) (shl .u8 1 (j : Int)) ≠ (x : Int) := by decide +kernel
theorem i64_wrap (n : Int) : IntKind.i64.wrap n = wrap64 n := by
  simp [IntKind.wrap, IntKind.bits, IntKind.signed, wrap64]
  split <;> omega
theorem and7 (p : Nat) (hp : p < 9223372036854775808) : Go.bits .and .i64 (p : Int) 7 = ((p % 8 : Nat) : Int) := by
  show IntKind.i64.wrap ((((BitVec.ofInt 64 (p : Int)) &&& (BitVec.ofInt 64 7)).toNat : Nat) : Int) = _
  rw [BitVec.toNat_and, BitVec.ofInt_natCast, BitVec.toNat_ofNat, Nat.mod_eq_of_lt (show p < 2 ^ 64 by omega), show (BitVec.ofInt 64 7).toNat = 7 from by decide, nat_mask3, i64_wrap]
  exact wrap_same (by omega) (by omega)
def turnS (b : List Int) (bit : Nat) : List Int := b.set (bit / 8) (Go.bits .xor .u8 (rd b ((bit / 8 : Nat) : Int)) (shl .u8 1 ((bit % 8 : Nat) : Int)))
theorem Turn_f (b : List Int) (bit : Int) (hb : b.length ≤ reachBytes) (h1 : bit < 9223372036854775808) :
    crc_Turn.f b bit = if 0 ≤ bit ∧ bit / 8 < (b.length : Int) then some (turnS b bit.toNat, 0) else some ([], 1) := by
  have hr := reachBytes_lt
  simp only [crc_Turn.f]
  by_cases h0 : bit < 0
  · rw [if_pos h0, if_neg (by omega)]
  · rw [if_neg h0]
    obtain ⟨n, rfl⟩ := Int.eq_ofNat_of_zero_le (show 0 ≤ bit by omega)
    by_cases h2 : ((n : Int) / 8) ≥ (b.length : Int)
    · rw [if_pos h2, if_neg (by omega)]
    · rw [if_neg h2, if_pos ⟨by omega, by omega⟩]
      simp only [slices_Clone_byte_byte.f, bindS]
      rw [if_pos (by simp; omega), List.nil_append, bindS, if_pos (by omega), if_pos (by omega), and7 n (by omega), if_pos (by omega), show (n : Int) / 8 = ((n / 8 : Nat) : Int) by omega, Int.toNat_natCast, Int.toNat_natCast]
      rfl
theorem turn_ok {b : List Int} (hb : Bytes b) {n : Nat} (hn : n / 8 < b.length) : Bytes (turnS b n) ∧ turnS (turnS b n) n = b ∧ turnS b n ≠ b := by
  obtain ⟨x0, x1⟩ := Bytes.rd hb (n / 8) hn
  obtain ⟨x, hx⟩ := Int.eq_ofNat_of_zero_le x0
  obtain ⟨t1, t2, t3⟩ := turn_byte x (by omega) (n % 8) (by omega)
  have hr : rd (turnS b n) ((n / 8 : Nat) : Int) = Go.bits .xor .u8 (x : Int) (shl .u8 1 ((n % 8 : Nat) : Int)) := by
    unfold turnS
    rw [rd_set _ _ _ _ hn, if_pos rfl, hx]
  refine ⟨?_, ?_, ?_⟩
  · intro y hy
    rcases List.mem_or_eq_of_mem_set hy with h | h
    · exact hb y h
    · rw [h, hx]
      exact t1
  · have h1 : turnS (turnS b n) n = (turnS b n).set (n / 8) (x : Int) := by
      rw [turnS, hr, t2]
    rw [h1]
    apply rd_ext (by simp [turnS])
    intro j hj
    have hl : (turnS b n).length = b.length := by simp [turnS]
    rw [rd_set _ _ _ _ (by rw [hl]; exact hn)]
    split
    · rename_i h
      rw [← h, hx]
    · rename_i h
      unfold turnS
      rw [rd_set _ _ _ _ hn, if_neg h]
  · intro h
    rw [h, hx] at hr
    exact t3 hr.symm
theorem Spoil_f (k : Nat) (l : List S40) (a bit : Int) (hl : Held l) (h1 : l.length ≤ 100000) (hb : bit < 9223372036854775808) (hk : 100004 < k) :
    net_Spoil.f k l a bit = if 0 ≤ a ∧ a < (l.length : Int) then (if 0 ≤ bit ∧ bit / 8 < ((rd_T40 l a).f1.length : Int) then some (l.set a.toNat ⟨(rd_T40 l a).f0, turnS (rd_T40 l a).f1 bit.toNat⟩, 0) else some (l, 1)) else some (l, 1) := by
  simp only [net_Spoil.f]
  rw [copied_f k l hl (by omega) (by omega), bindS, at_f k l a (by omega), bindS]
  by_cases h : 0 ≤ a ∧ a < (l.length : Int)
  · rw [if_pos (decide_eq_true h), if_pos h.1, if_pos h.2, if_pos h]
    obtain ⟨n, rfl⟩ := Int.eq_ofNat_of_zero_le h.1
    have hm : (rd_T40 l (n : Int)).f1.length ≤ reachBytes := by
      rw [rdT_nat l n (by omega)]
      exact hl _ (List.getElem_mem _)
    rw [Turn_f _ bit hm hb]
    by_cases h2 : 0 ≤ bit ∧ bit / 8 < ((rd_T40 l (n : Int)).f1.length : Int)
    · rw [if_pos h2, bindS, if_pos h2]
      simp only
      rw [if_pos trivial, if_pos h.2]
    · rw [if_neg h2, bindS, if_neg h2]
      simp only
      rw [if_neg (by decide)]
  · rw [if_neg (by simpa using h), if_neg h]
theorem Twice_f (k : Nat) (l : List S40) (a : Int) (hl : Held l) (h1 : l.length ≤ 100000) (hk : 100004 < k) :
    net_Twice.f k l a = if 0 ≤ a ∧ a < (l.length : Int) then (if (l.length : Int) ≥ 512 then some (l, 3) else some (l ++ [rd_T40 l a], 0)) else some (l, 1) := by
  simp only [net_Twice.f]
  rw [copied_f k l hl (by omega) (by omega), bindS, at_f k l a (by omega), bindS]
  by_cases h : 0 ≤ a ∧ a < (l.length : Int)
  · rw [if_pos (decide_eq_true h), if_pos h]
    by_cases h2 : (l.length : Int) ≥ 512
    · rw [if_pos h2, if_pos h2]
    · rw [if_neg h2, if_neg h2, if_pos h.1, if_pos h.2]
      obtain ⟨n, rfl⟩ := Int.eq_ofNat_of_zero_le h.1
      have hm : (rd_T40 l (n : Int)).f1.length ≤ reachBytes := by
        rw [rdT_nat l n (by omega)]
        exact hl _ (List.getElem_mem _)
      rw [own_f _ _ hm, bindS, if_pos (by omega)]
  · rw [if_neg (by simpa using h), if_neg h]
theorem Drop_f (k : Nat) (l : List S40) (n : Int) (hl : Held l) (h1 : l.length ≤ 100000) (hk : 100002 < k) :
    net_Drop.f k l n = if 0 ≤ n ∧ n < (l.length : Int) then some (l.eraseIdx n.toNat, 0) else some (l, 1) := by
  simp only [net_Drop.f]
  rw [Give_f k l n hl h1 hk]
  by_cases h : 0 ≤ n ∧ n < (l.length : Int)
  · rw [if_pos h, bindS, if_pos h]
  · rw [if_neg h, bindS, if_neg h]
theorem rdT_last (l : List S40) (x : S40) : rd_T40 (l ++ [x]) (l.length : Int) = x := by
  rw [rdT_nat _ _ (by simp)]
  simp
end Go.Proofs.Ytlppmamhbpcfcaa.NetEq
