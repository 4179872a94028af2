/- Plain facts on the codes of layer 3: what is put is got, no code is another's beginning, signed numbers and others are one to one; conditions: numbers of 64 bits. -/
import Derived.Test.YtejhbmdjdbbnpaaDrawInj
import Derived.Test.YtejhbmdjdbbnpaaWMore
namespace Go.Proofs.Ytejhbmdjdbbnpaa.LebPlain
open Go.RowKit Go.Proofs.YtejhbmdjdbbnpaaW.PrintWords Go.Proofs.YtejhbmdjdbbnpaaW.PrintMore Go.Proofs.Ytejhbmdjdbbnpaa.DrawPlain

/-! ### Signed numbers -/
def zigZ (n : Int) : Int := if 0 ≤ n then 2 * n else -2 * n - 1
def zagZ (m : Int) : Int := if m % 2 = 0 then m / 2 else -(m / 2) - 1

theorem xor_ones (a : Nat) (h : a < 18446744073709551616) : a ^^^ 18446744073709551615 = 18446744073709551615 - a := by
  have e : (BitVec.ofNat 64 a ^^^ BitVec.allOnes 64).toNat = 2 ^ 64 - 1 - a := by
    rw [BitVec.xor_allOnes, BitVec.toNat_not, BitVec.toNat_ofNat, Nat.mod_eq_of_lt (by omega)]
  rw [BitVec.toNat_xor, BitVec.toNat_ofNat, Nat.mod_eq_of_lt (show a < 2 ^ 64 by omega), BitVec.toNat_allOnes] at e
  exact e

theorem xor_u64_ones (a : Nat) (h : a < 18446744073709551616) : Go.bits .xor .u64 (a : Int) 18446744073709551615 = 18446744073709551615 - (a : Int) := by
  have e := xor_nat a 18446744073709551615 h (by omega)
  rw [xor_ones a h] at e
  rw [show ((18446744073709551615 : Nat) : Int) = 18446744073709551615 from rfl] at e
  rw [e]
  omega
theorem xor_u64_zero (a : Nat) (h : a < 18446744073709551616) : Go.bits .xor .u64 (a : Int) 0 = (a : Int) := by
  have e := xor_nat a 0 h (by omega)
  rw [Nat.xor_zero] at e
  exact e
theorem i64_wrap (n : Int) : IntKind.i64.wrap n = wrap64 n := by
  simp [IntKind.wrap, IntKind.bits, IntKind.signed, wrap64]
  split <;> omega
theorem xor_i64_zero (a : Nat) (h : a < 9223372036854775808) : Go.bits .xor .i64 (a : Int) 0 = (a : Int) := by
  show IntKind.i64.wrap ((((BitVec.ofInt 64 (a : Int)) ^^^ (BitVec.ofInt 64 0)).toNat : Nat) : Int) = _
  rw [BitVec.toNat_xor, BitVec.ofInt_natCast, BitVec.toNat_ofNat, Nat.mod_eq_of_lt (show a < 2 ^ 64 by omega), show (BitVec.ofInt 64 0).toNat = 0 from by decide, Nat.xor_zero, i64_wrap]
  exact wrap_same (by omega) (by omega)
theorem xor_i64_ones (a : Nat) (h : a < 9223372036854775808) : Go.bits .xor .i64 (a : Int) (-1) = -(a : Int) - 1 := by
  show IntKind.i64.wrap ((((BitVec.ofInt 64 (a : Int)) ^^^ (BitVec.ofInt 64 (-1))).toNat : Nat) : Int) = _
  rw [BitVec.toNat_xor, BitVec.ofInt_natCast, BitVec.toNat_ofNat, Nat.mod_eq_of_lt (show a < 2 ^ 64 by omega), show (BitVec.ofInt 64 (-1)).toNat = 18446744073709551615 from by decide, xor_ones a (by omega), i64_wrap]
  unfold wrap64
  omega
theorem and_one (a : Nat) (h : a < 18446744073709551616) : Go.bits .and .u64 (a : Int) 1 = ((a % 2 : Nat) : Int) := by
  show IntKind.u64.wrap ((((BitVec.ofInt 64 (a : Int)) &&& (BitVec.ofInt 64 1)).toNat : Nat) : Int) = _
  rw [BitVec.toNat_and, BitVec.ofInt_natCast, BitVec.toNat_ofNat, Nat.mod_eq_of_lt (show a < 2 ^ 64 by omega), show (BitVec.ofInt 64 1).toNat = 1 from by decide, Nat.and_one_is_mod]
  exact u64_same (by omega) (by omega)
theorem or_one (a : Nat) (h : a < 18446744073709551616) : Go.bits .or .u64 (a : Int) 1 = ((a ||| 1 : Nat) : Int) := by
  show IntKind.u64.wrap ((((BitVec.ofInt 64 (a : Int)) ||| (BitVec.ofInt 64 1)).toNat : Nat) : Int) = _
  rw [BitVec.toNat_or, BitVec.ofInt_natCast, BitVec.toNat_ofNat, Nat.mod_eq_of_lt (show a < 2 ^ 64 by omega), show (BitVec.ofInt 64 1).toNat = 1 from by decide]
  have hl : a ||| 1 < 2 ^ 64 := Nat.or_lt_two_pow (by omega) (by decide)
  exact u64_same (by omega) (by omega)

theorem zig_eq {n : Int} (h0 : -9223372036854775808 ≤ n) (h1 : n < 9223372036854775808) :
    Go.bits .xor .u64 (IntKind.u64.wrap (wrap64 (n * 2))) (IntKind.u64.wrap (n / 9223372036854775808)) = zigZ n := by
  unfold zigZ
  by_cases h : 0 ≤ n
  · rw [if_pos h, show IntKind.u64.wrap (n / 9223372036854775808) = 0 by rw [u64_wrap]; omega]
    obtain ⟨a, ha⟩ := Int.eq_ofNat_of_zero_le (u64_pos (wrap64 (n * 2)))
    have e : IntKind.u64.wrap (wrap64 (n * 2)) = 2 * n := by
      rw [u64_wrap]
      unfold wrap64
      omega
    rw [ha, xor_u64_zero a (by omega)]
    omega
  · rw [if_neg h, show IntKind.u64.wrap (n / 9223372036854775808) = 18446744073709551615 by rw [u64_wrap]; omega]
    obtain ⟨a, ha⟩ := Int.eq_ofNat_of_zero_le (u64_pos (wrap64 (n * 2)))
    have e : IntKind.u64.wrap (wrap64 (n * 2)) = (2 * n) % 18446744073709551616 := by
      rw [u64_wrap]
      unfold wrap64
      omega
    rw [ha, xor_u64_ones a (by omega)]
    omega

theorem zag_eq {m : Int} (h0 : 0 ≤ m) (h1 : m < 18446744073709551616) :
    Go.bits .xor .i64 (wrap64 (m / 2)) (wrap64 (-(wrap64 (Go.bits .and .u64 m 1)))) = zagZ m := by
  unfold zagZ
  obtain ⟨a, rfl⟩ := Int.eq_ofNat_of_zero_le h0
  rw [and_one a (by omega), wrap_same (i := ((a % 2 : Nat) : Int)) (by omega) (by omega), wrap_same (i := -((a % 2 : Nat) : Int)) (by omega) (by omega), wrap_same (i := (a : Int) / 2) (by omega) (by omega)]
  rw [show (a : Int) / 2 = ((a / 2 : Nat) : Int) by omega]
  by_cases h : a % 2 = 0
  · rw [if_pos (by omega), h, show (-((0 : Nat) : Int)) = 0 by omega, xor_i64_zero _ (by omega)]
  · rw [if_neg (by omega), show a % 2 = 1 by omega, show (-((1 : Nat) : Int)) = -1 by omega, xor_i64_ones _ (by omega)]

theorem zigZ_range {n : Int} (h0 : -9223372036854775808 ≤ n) (h1 : n < 9223372036854775808) : 0 ≤ zigZ n ∧ zigZ n < 18446744073709551616 := by
  unfold zigZ
  split <;> omega
theorem zagZ_range {m : Int} (h0 : 0 ≤ m) (h1 : m < 18446744073709551616) : -9223372036854775808 ≤ zagZ m ∧ zagZ m < 9223372036854775808 := by
  unfold zagZ
  split <;> omega
theorem zag_zig (n : Int) : zagZ (zigZ n) = n := by
  unfold zagZ zigZ
  split <;> split <;> omega
theorem zig_zag {m : Int} (h : 0 ≤ m) : zigZ (zagZ m) = m := by
  unfold zagZ zigZ
  split <;> split <;> omega

/-! ### Codes -/
def codeS (n : Nat) : List Int := if n < 128 then [(n : Int)] else ((n % 128 + 128 : Nat) : Int) :: codeS (n / 128)
termination_by n
decreasing_by omega

theorem codeS_small {n : Nat} (h : n < 128) : codeS n = [(n : Int)] := by rw [codeS, if_pos h]
theorem codeS_big {n : Nat} (h : ¬ n < 128) : codeS n = ((n % 128 + 128 : Nat) : Int) :: codeS (n / 128) := by rw [codeS, if_neg h]
theorem codeS_pos (n : Nat) : 0 < (codeS n).length := by
  by_cases h : n < 128
  · rw [codeS_small h]; simp
  · rw [codeS_big h]; simp

theorem codeS_len_le (k : Nat) : ∀ n : Nat, n < 128 ^ k → 0 < k → (codeS n).length ≤ k := by
  induction k with
  | zero => intro n _ h; omega
  | succ k ih =>
    intro n hn _
    by_cases h : n < 128
    · rw [codeS_small h]; simp
    · rw [codeS_big h]
      have hk : 0 < k := by
        rcases Nat.eq_zero_or_pos k with rfl | hk
        · simp at hn; omega
        · exact hk
      have := ih (n / 128) (by rw [Nat.pow_succ] at hn; exact Nat.div_lt_of_lt_mul (by rw [Nat.mul_comm]; exact hn)) hk
      simp only [List.length_cons]
      omega
theorem codeS_len_ten {n : Nat} (h : n < 18446744073709551616) : (codeS n).length ≤ 10 :=
  codeS_len_le 10 n (Nat.lt_of_lt_of_le h (by decide)) (by decide)

theorem codeS_len_mono (k : Nat) : ∀ a b : Nat, (codeS b).length ≤ k → a ≤ b → (codeS a).length ≤ (codeS b).length := by
  induction k with
  | zero => intro a b h _; have := codeS_pos b; omega
  | succ k ih =>
    intro a b h hab
    by_cases ha : a < 128
    · rw [codeS_small ha]
      exact codeS_pos b
    · have hb : ¬ b < 128 := by omega
      rw [codeS_big hb] at h ⊢
      rw [codeS_big ha]
      simp only [List.length_cons] at h ⊢
      have := ih (a / 128) (b / 128) (by omega) (Nat.div_le_div_right hab)
      omega

theorem codeS_bytes (k : Nat) : ∀ n : Nat, (codeS n).length ≤ k → ∀ x ∈ codeS n, 0 ≤ x ∧ x < 256 := by
  induction k with
  | zero => intro n h; have := codeS_pos n; omega
  | succ k ih =>
    intro n h x hx
    by_cases hn : n < 128
    · rw [codeS_small hn] at hx
      simp at hx
      omega
    · rw [codeS_big hn] at hx h
      simp only [List.length_cons] at h
      rcases List.mem_cons.1 hx with rfl | hx
      · omega
      · exact ih (n / 128) (by omega) x hx

/-- The code of a number told as an Int. -/
def codeI (x : Int) : List Int := codeS x.toNat
def Bytes (l : List Int) : Prop := ∀ x ∈ l, 0 ≤ x ∧ x < 256
def Words (l : List Int) : Prop := ∀ x ∈ l, 0 ≤ x ∧ x < 18446744073709551616
theorem codeI_bytes (x : Int) : Bytes (codeI x) := codeS_bytes _ _ (Nat.le_refl _)
theorem codeI_len {x : Int} (h : x < 18446744073709551616) : (codeI x).length ≤ 10 := codeS_len_ten (by omega)
def codesI (l : List Int) : List Int := l.flatMap codeI
theorem codesI_cons (x : Int) (l : List Int) : codesI (x :: l) = codeI x ++ codesI l := rfl
theorem codesI_append (a b : List Int) : codesI (a ++ b) = codesI a ++ codesI b := by simp [codesI]
theorem codesI_bytes (l : List Int) : Bytes (codesI l) := by
  intro x hx
  obtain ⟨y, _, hy⟩ := List.mem_flatMap.1 hx
  exact codeI_bytes y x hy
theorem codesI_len (l : List Int) (h : Words l) : (codesI l).length ≤ 10 * l.length := by
  induction l with
  | nil => simp [codesI]
  | cons x l ih =>
    rw [codesI_cons]
    have := ih (fun y hy => h y (List.mem_cons_of_mem _ hy))
    have := codeI_len (h x List.mem_cons_self).2
    simp only [List.length_append, List.length_cons]
    omega
theorem Bytes.append {a b : List Int} (ha : Bytes a) (hb : Bytes b) : Bytes (a ++ b) := by
  intro x hx
  rcases List.mem_append.1 hx with h | h
  · exact ha x h
  · exact hb x h
theorem Bytes.drop {a : List Int} (ha : Bytes a) (n : Nat) : Bytes (a.drop n) := fun x hx => ha x (List.mem_of_mem_drop hx)
theorem Bytes.take {a : List Int} (ha : Bytes a) (n : Nat) : Bytes (a.take n) := fun x hx => ha x (List.mem_of_mem_take hx)

/-! ### Reading -/
def accS (acc c : Int) (k : Nat) : Int := Go.bits .or .u64 acc (shl .u64 (c % 128) (7 * (k : Int)))
def getS (pos : Int) : List Int → Nat → Int → Int × Int × Int
  | [], _, _ => (0, 0, 5)
  | c :: r, k, acc => if (k = 9 ∧ c > 1) ∨ (c = 0 ∧ 0 < k) then (0, 0, 6) else if c < 128 then (accS acc c k, pos + k + 1, 0) else getS pos r (k + 1) (accS acc c k)
def getG (l : List Int) (pos : Int) : Int × Int × Int := if pos < 0 then (0, 0, 1) else getS pos (l.drop pos.toNat) 0 0

def P7 (k : Nat) : Nat := 2 ^ (7 * k)
theorem P7_succ (k : Nat) : P7 (k + 1) = 128 * P7 k := by
  unfold P7
  rw [show 7 * (k + 1) = 7 * k + 7 by omega, Nat.pow_add]
  omega
theorem P7_pos (k : Nat) : 0 < P7 k := Nat.two_pow_pos _
theorem P7_nine : P7 9 = 9223372036854775808 := by decide

theorem accS_add {acc c k : Nat} (hk : k ≤ 9) (ha : acc < P7 k) (hs : acc + c % 128 * P7 k < 18446744073709551616) : accS (acc : Int) (c : Int) k = ((acc + c % 128 * P7 k : Nat) : Int) := by
  unfold accS shl
  have e1 : min ((7 : Int) * (k : Int)).toNat IntKind.u64.bits = 7 * k := by
    show min _ 64 = _
    omega
  rw [e1, show (c : Int) % 128 = ((c % 128 : Nat) : Int) by omega]
  have e2 : IntKind.u64.wrap (((c % 128 : Nat) : Int) * 2 ^ (7 * k)) = ((c % 128 * P7 k : Nat) : Int) := by
    rw [show (((c % 128 : Nat) : Int) * 2 ^ (7 * k)) = ((c % 128 * P7 k : Nat) : Int) by unfold P7; push_cast; rfl]
    exact u64_same (by omega) (by omega)
  rw [e2]
  generalize hq : c % 128 = q at *
  have e3 : P7 k * q + acc = P7 k * q ||| acc := Nat.two_pow_add_eq_or_of_lt ha q
  show IntKind.u64.wrap ((((BitVec.ofInt 64 (acc : Int)) ||| (BitVec.ofInt 64 ((q * P7 k : Nat) : Int))).toNat : Nat) : Int) = _
  rw [BitVec.toNat_or, BitVec.ofInt_natCast, BitVec.ofInt_natCast, BitVec.toNat_ofNat, BitVec.toNat_ofNat, Nat.mod_eq_of_lt (show acc < 2 ^ 64 by omega), Nat.mod_eq_of_lt (show q * P7 k < 2 ^ 64 by omega)]
  rw [Nat.or_comm, Nat.mul_comm q, ← e3, Nat.add_comm]
  rw [Nat.mul_comm] at hs
  exact u64_same (by omega) (by omega)

/-- What was put is got. -/
theorem get_code (pos : Int) (rest : List Int) (j : Nat) : ∀ (n k acc : Nat), (codeS n).length ≤ j → k ≤ 9 → acc < P7 k → acc + n * P7 k < 18446744073709551616 → (0 < k → n ≠ 0) →
    getS pos (codeS n ++ rest) k (acc : Int) = (((acc + n * P7 k : Nat) : Int), pos + k + (codeS n).length, 0) := by
  induction j with
  | zero => intro n k acc h; have := codeS_pos n; omega
  | succ j ih =>
    intro n k acc hj hk ha hs h0
    have hp := P7_pos k
    by_cases hn : n < 128
    · rw [codeS_small hn]
      simp only [List.cons_append, List.nil_append, getS]
      have h9 : ¬ ((k = 9 ∧ (n : Int) > 1) ∨ ((n : Int) = 0 ∧ 0 < k)) := by
        rintro (⟨rfl, h⟩ | ⟨h, h'⟩)
        · rw [P7_nine] at hs
          omega
        · have := h0 h'
          omega
      rw [if_neg h9, if_pos (by omega), accS_add hk ha (by rw [Nat.mod_eq_of_lt hn]; exact hs), Nat.mod_eq_of_lt hn]
      simp
    · rw [codeS_big hn] at hj ⊢
      simp only [List.cons_append, getS, List.length_cons] at hj ⊢
      have hk9 : k ≠ 9 := by
        rintro rfl
        rw [P7_nine] at hs
        omega
      rw [if_neg (by omega), if_neg (by omega)]
      have hm : n % 128 * P7 k + 128 * (n / 128) * P7 k = n * P7 k := by
        rw [← Nat.add_mul]
        congr 1
        omega
      have hlt : n % 128 * P7 k ≤ 127 * P7 k := Nat.mul_le_mul_right _ (by omega)
      have e : (n % 128 + 128) % 128 = n % 128 := by omega
      rw [accS_add (c := n % 128 + 128) hk ha (by rw [e]; omega), e]
      have hsucc := P7_succ k
      have hass : n / 128 * P7 (k + 1) = 128 * (n / 128) * P7 k := by
        rw [hsucc, ← Nat.mul_assoc, Nat.mul_comm (n / 128) 128]
      rw [ih (n / 128) (k + 1) (acc + n % 128 * P7 k) (by omega) (by omega) (by omega) (by rw [hass]; omega) (fun _ => by omega)]
      rw [hass]
      refine Prod.ext ?_ (Prod.ext ?_ rfl)
      · show ((acc + n % 128 * P7 k + 128 * (n / 128) * P7 k : Nat) : Int) = _
        congr 1
        omega
      · show pos + ((k + 1 : Nat) : Int) + _ = _
        push_cast
        omega

/-- A code that is cut short is too short. -/
theorem get_short (pos : Int) (j : Nat) : ∀ (n k acc m : Nat), (codeS n).length ≤ j → m < (codeS n).length → k ≤ 9 → acc < P7 k → acc + n * P7 k < 18446744073709551616 → (0 < k → n ≠ 0) →
    getS pos ((codeS n).take m) k (acc : Int) = (0, 0, 5) := by
  induction j with
  | zero => intro n k acc m h; have := codeS_pos n; omega
  | succ j ih =>
    intro n k acc m hj hm hk ha hs h0
    rcases Nat.eq_zero_or_pos m with rfl | hm0
    · rfl
    · by_cases hn : n < 128
      · rw [codeS_small hn] at hm
        simp at hm
        omega
      · rw [codeS_big hn] at hj hm ⊢
        obtain ⟨m, rfl⟩ : ∃ q, m = q + 1 := ⟨m - 1, by omega⟩
        simp only [List.take_succ_cons, getS, List.length_cons] at hj hm ⊢
        have hp := P7_pos k
        have hk9 : k ≠ 9 := by
          rintro rfl
          rw [P7_nine] at hs
          omega
        rw [if_neg (by omega), if_neg (by omega)]
        have hq : n % 128 * P7 k + 128 * (n / 128) * P7 k = n * P7 k := by
          rw [← Nat.add_mul]
          congr 1
          omega
        have hlt : n % 128 * P7 k ≤ 127 * P7 k := Nat.mul_le_mul_right _ (by omega)
        have e : (n % 128 + 128) % 128 = n % 128 := by omega
        rw [accS_add (c := n % 128 + 128) hk ha (by rw [e]; omega), e]
        have hsucc := P7_succ k
        have hass : n / 128 * P7 (k + 1) = 128 * (n / 128) * P7 k := by
          rw [hsucc, ← Nat.mul_assoc, Nat.mul_comm (n / 128) 128]
        exact ih (n / 128) (k + 1) _ m (by omega) (by omega) (by omega) (by omega) (by rw [hass]; omega) (fun _ => by omega)

/-- What was got is put as it stood there. -/
theorem get_put (pos : Int) (l : List Int) : ∀ (k acc : Nat) (n nx : Int), Bytes l → k ≤ 9 → acc < P7 k → getS pos l k (acc : Int) = (n, nx, 0) →
    ∃ m : Nat, n = ((acc + m * P7 k : Nat) : Int) ∧ acc + m * P7 k < 18446744073709551616 ∧ nx = pos + k + (codeS m).length ∧ (codeS m).length ≤ l.length ∧ l.take (codeS m).length = codeS m ∧ (0 < k → m ≠ 0) := by
  induction l with
  | nil => intro k acc n nx _ _ _ h; simp [getS] at h
  | cons c r ih =>
    intro k acc n nx hb hk ha h
    obtain ⟨hc0, hc1⟩ := hb c List.mem_cons_self
    obtain ⟨c, rfl⟩ := Int.eq_ofNat_of_zero_le hc0
    simp only [getS] at h
    split at h
    · simp at h
    · rename_i hno
      have hp := P7_pos k
      have hbound : acc + c % 128 * P7 k < 18446744073709551616 := by
        by_cases h9 : k = 9
        · subst h9
          have hc2 : c ≤ 1 := by
            by_cases hc : c ≤ 1
            · exact hc
            · exact absurd (.inl ⟨rfl, by omega⟩) hno
          rw [P7_nine] at ha ⊢
          omega
        · have h8 : P7 k ≤ P7 8 := Nat.pow_le_pow_right (by decide) (by omega)
          have e8 : P7 8 = 72057594037927936 := by decide
          have : c % 128 * P7 k ≤ 127 * P7 k := Nat.mul_le_mul_right _ (by omega)
          omega
      rw [accS_add hk ha hbound] at h
      split at h
      · rename_i hlt
        have hlt : c < 128 := by omega
        simp only [Prod.mk.injEq] at h
        obtain ⟨h1, h2, _⟩ := h
        rw [Nat.mod_eq_of_lt hlt] at h1 hbound
        refine ⟨c, h1.symm, hbound, ?_, ?_, ?_, fun h' e => hno (.inr ⟨by omega, h'⟩)⟩
        · rw [codeS_small hlt]
          simp
          omega
        · rw [codeS_small hlt]
          simp
        · rw [codeS_small hlt]
          simp
      · rename_i hge
        have hk9 : k ≠ 9 := by
          rintro rfl
          exact hno (.inl ⟨rfl, by omega⟩)
        have hsucc := P7_succ k
        have hlt : c % 128 * P7 k ≤ 127 * P7 k := Nat.mul_le_mul_right _ (by omega)
        obtain ⟨m, hm1, hm2, hm3, hm4, hm5, hm6⟩ := ih (k + 1) (acc + c % 128 * P7 k) n nx (fun x hx => hb x (List.mem_cons_of_mem _ hx)) (by omega) (by omega) h
        have hm0 := hm6 (by omega)
        have hq : (c % 128 + 128 * m) * P7 k = c % 128 * P7 k + m * P7 (k + 1) := by
          rw [hsucc, Nat.add_mul, ← Nat.mul_assoc m, Nat.mul_comm m 128]
        have hbig : ¬ (c % 128 + 128 * m) < 128 := by omega
        have e1 : (c % 128 + 128 * m) % 128 + 128 = c := by omega
        have e2 : (c % 128 + 128 * m) / 128 = m := by omega
        have hcode : codeS (c % 128 + 128 * m) = (c : Int) :: codeS m := by rw [codeS_big hbig, e1, e2]
        refine ⟨c % 128 + 128 * m, ?_, ?_, ?_, ?_, ?_, fun _ => by omega⟩
        · rw [hm1, hq, Nat.add_assoc]
        · rw [hq]
          omega
        · rw [hm3, hcode]
          simp only [List.length_cons]
          push_cast
          omega
        · rw [hcode]
          simp only [List.length_cons]
          omega
        · rw [hcode]
          simp only [List.length_cons, List.take_succ_cons, hm5]

theorem getG_code (l rest : List Int) (n : Nat) (hn : n < 18446744073709551616) : getG (l ++ codeS n ++ rest) (l.length : Int) = ((n : Int), (l.length : Int) + (codeS n).length, 0) := by
  unfold getG
  rw [if_neg (by omega), Int.toNat_natCast, List.append_assoc, List.drop_left]
  have := get_code (l.length : Int) rest (codeS n).length n 0 0 (Nat.le_refl _) (by omega) (by decide) (by rw [show P7 0 = 1 from rfl]; omega) (fun h => absurd h (by omega))
  rw [show ((0 : Nat) : Int) = 0 from rfl, show P7 0 = 1 from rfl] at this
  rw [this]
  simp

/-- No code is another one's beginning. -/
theorem code_apart {a b : Nat} (ha : a < 18446744073709551616) (hb : b < 18446744073709551616) (h : codeS a = (codeS b).take (codeS a).length) : a = b := by
  have e : codeS b = codeS a ++ (codeS b).drop (codeS a).length := by
    have := List.take_append_drop (codeS a).length (codeS b)
    rw [← h] at this
    exact this.symm
  have h1 := getG_code [] ((codeS b).drop (codeS a).length) a ha
  have h2 := getG_code [] [] b hb
  rw [List.nil_append, ← e] at h1
  rw [List.nil_append, List.append_nil, h1] at h2
  have := congrArg Prod.fst h2
  simp at this
  omega

/-! ### Several -/
def manyS (l : List Int) : Nat → Int → List Int → List Int × Int × Int
  | 0, pos, out => (out, pos, 0)
  | m + 1, pos, out => if (getG l pos).2.2 = 0 then manyS l m (getG l pos).2.1 (out ++ [(getG l pos).1]) else ([], 0, (getG l pos).2.2)

theorem many_codes (w : List Int) (hw : Words w) : ∀ (l rest out : List Int), manyS (l ++ codesI w ++ rest) w.length (l.length : Int) out = (out ++ w, ((l ++ codesI w).length : Int), 0) := by
  induction w with
  | nil => intro l rest out; simp [manyS, codesI]
  | cons x w ih =>
    intro l rest out
    obtain ⟨h0, h1⟩ := hw x List.mem_cons_self
    obtain ⟨n, rfl⟩ := Int.eq_ofNat_of_zero_le h0
    have e : l ++ codesI ((n : Int) :: w) ++ rest = l ++ codeS n ++ (codesI w ++ rest) := by
      rw [codesI_cons, codeI, Int.toNat_natCast]
      simp
    rw [e]
    simp only [List.length_cons, manyS, getG_code l (codesI w ++ rest) n (by omega), if_true]
    have := ih (fun y hy => hw y (List.mem_cons_of_mem _ hy)) (l ++ codeS n) rest (out ++ [(n : Int)])
    rw [show (l.length : Int) + ((codeS n).length : Int) = ((l ++ codeS n).length : Int) by simp]
    rw [show l ++ codeS n ++ (codesI w ++ rest) = (l ++ codeS n) ++ codesI w ++ rest by simp, this]
    rw [codesI_cons, codeI, Int.toNat_natCast]
    simp

theorem getG_end (l : List Int) : getG l (l.length : Int) = (0, 0, 5) := by
  unfold getG
  rw [if_neg (by omega), Int.toNat_natCast, List.drop_length]
  rfl

theorem many_short (w : List Int) (hw : Words w) : ∀ (l out : List Int), manyS (l ++ codesI w) (w.length + 1) (l.length : Int) out = ([], 0, 5) := by
  induction w with
  | nil =>
    intro l out
    simp only [codesI, List.flatMap_nil, List.append_nil, List.length_nil, manyS, getG_end]
    simp
  | cons x w ih =>
    intro l out
    obtain ⟨h0, h1⟩ := hw x List.mem_cons_self
    obtain ⟨n, rfl⟩ := Int.eq_ofNat_of_zero_le h0
    have e : l ++ codesI ((n : Int) :: w) = l ++ codeS n ++ codesI w := by
      rw [codesI_cons, codeI, Int.toNat_natCast]
      simp
    rw [e, List.length_cons, manyS, getG_code l (codesI w) n (by omega)]
    simp only [if_true]
    rw [show (l.length : Int) + ((codeS n).length : Int) = ((l ++ codeS n).length : Int) by simp]
    exact ih (fun y hy => hw y (List.mem_cons_of_mem _ hy)) (l ++ codeS n) _

end Go.Proofs.Ytejhbmdjdbbnpaa.LebPlain
