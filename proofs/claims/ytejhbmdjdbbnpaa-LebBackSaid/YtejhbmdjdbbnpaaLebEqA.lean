/- What the functions of layer 3 come to, in plain words: codes, reading, several; conditions: bytes and numbers of 64 bits, texts of at most a million bytes. -/
import Derived.Test.YtejhbmdjdbbnpaaMLebx1
import Derived.Test.YtejhbmdjdbbnpaaMLebx2
import Derived.Test.YtejhbmdjdbbnpaaLeb
namespace Go.Proofs.Ytejhbmdjdbbnpaa.LebEq
open Go.RowKit Go.Proofs.Ytejhbmdjdbbnpaa.MLeb Go.Proofs.Ytejhbmdjdbbnpaa.DrawPlain Go.Proofs.Ytejhbmdjdbbnpaa.LebPlain Go.Proofs.YtejhbmdjdbbnpaaW.PrintWords Go.Proofs.YtejhbmdjdbbnpaaW.PrintLast Go.Proofs.YtejhbmdjdbbnpaaW.PrintMore

set_option linter.unusedVariables false
set_option linter.unusedSimpArgs false

theorem live_eq (k : Nat) (hk : 60 ≤ k) : thrumlaw03_live.f k = some true :=
  at_rounds thrumlaw03_live.mono hk (by decide +kernel)
theorem zig_f {n : Int} (h0 : -9223372036854775808 ≤ n) (h1 : n < 9223372036854775808) : leb_Zig.f n = some (zigZ n) := by rw [leb_Zig.f, zig_eq h0 h1]
theorem zag_f {m : Int} (h0 : 0 ≤ m) (h1 : m < 18446744073709551616) : leb_Zag.f m = some (zagZ m) := by rw [leb_Zag.f, zag_eq h0 h1]
theorem few_f (l : List Int) (n : Int) : thrumlaw03_few.f l n = some (decide ((l.length : Int) ≤ 2000 ∧ n ≤ 500)) := by
  simp only [thrumlaw03_few.f]
  by_cases h : (l.length : Int) ≤ 2000
  · rw [if_pos h]
    simp [h]
  · rw [if_neg h, decide_eq_false (fun e => h e.1)]
theorem clone_f (l : List Int) (h : l.length < 140737488355328) : slices_Clone_byte_byte.f l = some l := by
  simp only [slices_Clone_byte_byte.f, bindS, List.length_nil, Nat.zero_add, if_pos h, List.nil_append]

theorem or128 : ∀ c : Nat, c < 256 → Go.bits .or .u8 (c : Int) 128 = ((c % 128 + 128 : Nat) : Int) := by decide +kernel
theorem and127 : ∀ c : Nat, c < 256 → Go.bits .and .u8 (c : Int) 127 = ((c % 128 : Nat) : Int) := by decide +kernel

theorem put_loop (k : Nat) : ∀ (b : List Int) (n : Nat), n < 128 ^ k → 0 < k → b.length + k < 140737488355328 → leb_put.l0 k b (n : Int) = some (b ++ codeS n) := by
  induction k with
  | zero => intro b n _ h; omega
  | succ k ih =>
    intro b n hn _ hb
    simp only [leb_put.l0]
    by_cases h : n < 128
    · rw [if_neg (by omega), if_pos (by omega), codeS_small h, show (n : Int) % 256 = n by omega]
    · have hk : 0 < k := by
        rcases Nat.eq_zero_or_pos k with rfl | hk
        · simp at hn; omega
        · exact hk
      rw [if_pos (by omega), if_pos (by omega), show (n : Int) % 256 = ((n % 256 : Nat) : Int) by omega, or128 _ (by omega), show (n : Int) / 128 = ((n / 128 : Nat) : Int) by omega]
      rw [ih _ (n / 128) (by rw [Nat.pow_succ] at hn; exact Nat.div_lt_of_lt_mul (by rw [Nat.mul_comm]; exact hn)) hk (by simp; omega)]
      rw [codeS_big h, show n % 256 % 128 = n % 128 by omega]
      simp
theorem put_f (k : Nat) (b : List Int) (x : Int) (h0 : 0 ≤ x) (h1 : x < 18446744073709551616) (hb : b.length + 10 < 140737488355328) (hk : 10 ≤ k) : leb_put.f k b x = some (b ++ codeI x) := by
  obtain ⟨n, rfl⟩ := Int.eq_ofNat_of_zero_le h0
  rw [codeI, Int.toNat_natCast]
  exact at_rounds (g := fun k => leb_put.f k b (n : Int)) (leb_put.mono b n) hk (put_loop 10 b n (Nat.lt_of_lt_of_le (show n < 18446744073709551616 by omega) (by decide)) (by omega) hb)

theorem Words.rd {l : List Int} (h : Words l) (i : Nat) (hi : i < l.length) : 0 ≤ rd l (i : Int) ∧ rd l (i : Int) < 18446744073709551616 := by
  have e : Go.Proofs.YtejhbmdjdbbnpaaW.PrintWords.rd l (i : Int) = l[i] := by simp [rd_nat, List.getD_eq_getElem?_getD, List.getElem?_eq_getElem hi]
  rw [e]
  exact h _ (List.getElem_mem hi)
theorem Bytes.rd {l : List Int} (h : Bytes l) (i : Nat) (hi : i < l.length) : 0 ≤ rd l (i : Int) ∧ rd l (i : Int) < 256 := by
  have e : Go.Proofs.YtejhbmdjdbbnpaaW.PrintWords.rd l (i : Int) = l[i] := by simp [rd_nat, List.getD_eq_getElem?_getD, List.getElem?_eq_getElem hi]
  rw [e]
  exact h _ (List.getElem_mem hi)

theorem Put_loop (l : List Int) (hw : Words l) (hn : l.length ≤ maxLen) (d : Nat) : ∀ (k i : Nat) (b : List Int), i + d = l.length → d + 10 < k → b.length + 10 * d + 10 < 140737488355328 →
    leb_Put.l0 k b l (l.length : Int) (i : Int) = some (b ++ codesI (l.drop i)) := by
  induction d with
  | zero =>
    intro k i b hi hk hb
    obtain ⟨k, rfl⟩ : ∃ m, k = m + 1 := ⟨k - 1, by omega⟩
    simp only [leb_Put.l0]
    rw [if_neg (by omega), List.drop_of_length_le (by omega)]
    simp [codesI]
  | succ d ih =>
    intro k i b hi hk hb
    obtain ⟨k, rfl⟩ : ∃ m, k = m + 1 := ⟨k - 1, by omega⟩
    obtain ⟨r0, r1⟩ := Words.rd hw i (by omega)
    simp only [leb_Put.l0]
    rw [if_pos (by omega), if_pos (by omega), if_pos (by omega), put_f k b _ r0 r1 (by omega) (by omega)]
    simp only [bindS]
    rw [wrap_next (by omega) (show (i : Int) < (l.length : Int) by omega) hn, show ((i : Int) + 1) = ((i + 1 : Nat) : Int) by omega]
    have hc := codeI_len r1
    rw [ih k (i + 1) _ (by omega) (by omega) (by simp only [List.length_append]; omega), rd_drop l i (by omega), codesI_cons, List.append_assoc]
theorem Put_f (k : Nat) (b l : List Int) (hw : Words l) (hn : l.length ≤ 1000000) (hb : b.length ≤ 1000000) (hk : l.length + 10 < k) : leb_Put.f k b l = some (b ++ codesI l) := by
  simp only [leb_Put.f, clone_f b (by omega), bindS]
  have := Put_loop l hw (by simp only [maxLen]; omega) l.length k 0 b (by omega) (by omega) (by omega)
  simpa using this

theorem accS_print (acc : Int) (c k : Nat) (hc : c < 256) (hk : k ≤ 9) : Go.bits .or .u64 acc (shl .u64 (IntKind.u64.wrap (Go.bits .and .u8 (c : Int) 127)) (wrap64 (7 * (k : Int)))) = accS acc (c : Int) k := by
  rw [and127 c hc, u64_same (by omega) (by omega), wrap_same (by omega) (by omega), accS, show ((c : Int) % 128) = ((c % 128 : Nat) : Int) by omega]

theorem get_step (D : List Int) (hD : Bytes D) (pos : Int) (h0 : 0 ≤ pos) (h1 : pos ≤ 9000000000000000000) (hl : D.length ≤ 1000000) (k i : Nat) (acc : Int) (hi : i ≤ 9) :
    leb_Get.l0 (k + 3) pos acc D (D.length : Int) (i : Int) =
      if i < D.length then (if (i = 9 ∧ rd D (i : Int) > 1) ∨ (rd D (i : Int) = 0 ∧ 0 < i) then some (0, 0, 6) else if rd D (i : Int) < 128 then some (accS acc (rd D (i : Int)) i, pos + i + 1, 0)
        else leb_Get.l0 k pos (accS acc (rd D (i : Int)) i) D (D.length : Int) ((i + 1 : Nat) : Int)) else some (0, 0, 5) := by
  by_cases hlt : i < D.length
  · obtain ⟨c0, c1⟩ := Bytes.rd hD i hlt
    rw [if_pos hlt]
    simp only [leb_Get.l0]
    rw [if_pos (by omega), if_pos (by omega), if_pos (by omega)]
    generalize rd D (i : Int) = c at *
    obtain ⟨c, rfl⟩ := Int.eq_ofNat_of_zero_le c0
    have hj2 : ∀ b : Bool, leb_Get.j2 (k + 1) pos acc (i : Int) (c : Int) (decide ((c : Int) < 128)) D (D.length : Int) (i : Int) b =
        if b = true then some (0, 0, 6) else if (c : Int) < 128 then some (accS acc c i, pos + i + 1, 0) else leb_Get.l0 k pos (accS acc (c : Int) i) D (D.length : Int) ((i + 1 : Nat) : Int) := by
      intro b
      simp only [leb_Get.j2]
      rw [accS_print acc c i (by omega) hi, wrap_same (i := 7 * (i : Int)) (by omega) (by omega), if_pos (show (0 : Int) ≤ 7 * (i : Int) by omega)]
      rw [wrap_same (i := pos + (i : Int)) (by omega) (by omega), wrap_same (i := pos + (i : Int) + 1) (by omega) (by omega), wrap_same (i := (i : Int) + 1) (by omega) (by omega)]
      simp only [decide_eq_true_eq]
      rfl
    have hj1 : ∀ b : Bool, leb_Get.j1 (k + 2) pos acc (i : Int) (c : Int) (decide ((c : Int) < 128)) D (D.length : Int) (i : Int) b =
        if b = true ∨ (c = 0 ∧ 0 < i) then some (0, 0, 6) else if (c : Int) < 128 then some (accS acc c i, pos + i + 1, 0) else leb_Get.l0 k pos (accS acc (c : Int) i) D (D.length : Int) ((i + 1 : Nat) : Int) := by
      intro b
      simp only [leb_Get.j1, hj2]
      cases b
      · by_cases hc : (c : Int) < 128
        · by_cases hz : c = 0
          · subst hz
            by_cases hi0 : 0 < i
            · simp [hi0]
            · simp [hi0]
          · simp [hz, hc]
        · have : c ≠ 0 := by omega
          simp [hc, this]
      · simp
    by_cases h9 : i = 9
    · rw [if_pos (by omega), hj1]
      subst h9
      by_cases hc1 : (c : Int) > 1
      · rw [if_pos (.inl (by simpa using hc1)), if_pos (.inl ⟨rfl, hc1⟩)]
      · by_cases hc0 : c = 0
        · rw [if_pos (.inr ⟨hc0, by omega⟩), if_pos (.inr ⟨by omega, by omega⟩)]
        · rw [if_neg (by simp; omega), if_neg (show ¬ ((9 = 9 ∧ (c : Int) > 1) ∨ ((c : Int) = 0 ∧ 0 < 9)) by omega)]
    · rw [if_neg (by omega), hj1]
      by_cases hc0 : c = 0 ∧ 0 < i
      · rw [if_pos (.inr hc0), if_pos (.inr ⟨by omega, by omega⟩)]
      · rw [if_neg (by simp; omega), if_neg (show ¬ ((i = 9 ∧ (c : Int) > 1) ∨ ((c : Int) = 0 ∧ 0 < i)) by omega)]
  · rw [if_neg hlt]
    simp only [leb_Get.l0]
    rw [if_neg (by omega)]
theorem get_loop (D : List Int) (hD : Bytes D) (pos : Int) (h0 : 0 ≤ pos) (h1 : pos ≤ 9000000000000000000) (hl : D.length ≤ 1000000) (d : Nat) : ∀ (k i : Nat) (acc : Int), i + d = 9 → 3 * d + 4 ≤ k →
    leb_Get.l0 k pos acc D (D.length : Int) (i : Int) = some (getS pos (D.drop i) i acc) := by
  induction d with
  | zero =>
    intro k i acc hi hk
    obtain ⟨k, rfl⟩ : ∃ m, k = m + 3 := ⟨k - 3, by omega⟩
    obtain rfl : i = 9 := by omega
    rw [get_step D hD pos h0 h1 hl k 9 acc (by omega)]
    by_cases hlt : 9 < D.length
    · rw [if_pos hlt, rd_drop D 9 hlt]
      simp only [getS]
      split
      · rfl
      · rename_i hno
        have hc : rd D ((9 : Nat) : Int) ≤ 1 := by
          by_cases h : rd D ((9 : Nat) : Int) ≤ 1
          · exact h
          · exact (hno (.inl ⟨by first | rfl | trivial, by omega⟩)).elim
        rw [if_pos (by omega), if_pos (by omega)]
    · rw [if_neg hlt, List.drop_of_length_le (by omega)]
      rfl
  | succ d ih =>
    intro k i acc hi hk
    obtain ⟨k, rfl⟩ : ∃ m, k = m + 3 := ⟨k - 3, by omega⟩
    rw [get_step D hD pos h0 h1 hl k i acc (by omega)]
    by_cases hlt : i < D.length
    · rw [if_pos hlt, rd_drop D i hlt]
      simp only [getS]
      split
      · rfl
      · split
        · rfl
        · exact ih k (i + 1) _ (by omega) (by omega)
    · rw [if_neg hlt, List.drop_of_length_le (by omega)]
      rfl
theorem get_f (k : Nat) (l : List Int) (pos : Int) (hl : Bytes l) (hn : l.length ≤ 1000000) (hp : pos < 9223372036854775808) (hk : 40 ≤ k) : leb_Get.f k l pos = some (getG l pos) := by
  simp only [leb_Get.f, getG]
  by_cases h : pos < 0
  · rw [if_pos h, if_pos h]
  · rw [if_neg h, if_neg h]
    unfold mn
    by_cases hlt : (l.length : Int) < pos
    · rw [if_pos hlt, if_pos (by omega), if_pos (by omega)]
      rw [Int.toNat_natCast, List.drop_of_length_le (Nat.le_refl _), List.drop_of_length_le (show l.length ≤ pos.toNat by omega)]
      obtain ⟨k, rfl⟩ : ∃ m, k = m + 1 := ⟨k - 1, by omega⟩
      simp only [leb_Get.l0]
      rw [if_neg (by simp)]
      rfl
    · rw [if_neg hlt, if_pos (by omega), if_pos (by omega)]
      have := get_loop (l.drop pos.toNat) (hl.drop _) pos (by omega) (by omega) (by rw [List.length_drop]; omega) 9 k 0 0 (by omega) (by omega)
      rw [List.drop_zero] at this
      exact this

theorem getG_next {l : List Int} {pos n nx e : Int} (h : getG l pos = (n, nx, e)) (hl : Bytes l) : (e = 0 → ∃ m : Nat, n = m ∧ m < 18446744073709551616 ∧ 0 ≤ pos ∧ nx = pos + (codeS m).length ∧ pos.toNat + (codeS m).length ≤ l.length ∧ (l.drop pos.toNat).take (codeS m).length = codeS m) := by
  rintro rfl
  unfold getG at h
  split at h
  · simp at h
  · obtain ⟨m, h1, h2, h3, h4, h5, _⟩ := get_put pos (l.drop pos.toNat) 0 0 n nx (hl.drop _) (by omega) (by decide) h
    rw [show P7 0 = 1 from rfl] at h1 h2
    rw [List.length_drop] at h4
    have := codeS_pos m
    exact ⟨m, by omega, by omega, by omega, by omega, by omega, h5⟩

theorem many_loop (l : List Int) (hl : Bytes l) (hn : l.length ≤ 1000000) (m : Nat) : ∀ (k : Nat) (pos : Int) (out : List Int), pos < 9223372036854775808 → m + 45 ≤ k → out.length + m ≤ 1000000 →
    leb_Many.l0 k l pos ((out.length + m : Nat) : Int) out = some (manyS l m pos out) := by
  induction m with
  | zero =>
    intro k pos out hp hk ho
    obtain ⟨k, rfl⟩ : ∃ q, k = q + 1 := ⟨k - 1, by omega⟩
    simp only [leb_Many.l0]
    rw [if_neg (by omega)]
    rfl
  | succ m ih =>
    intro k pos out hp hk ho
    obtain ⟨k, rfl⟩ : ∃ q, k = q + 1 := ⟨k - 1, by omega⟩
    simp only [leb_Many.l0]
    rw [if_pos (by omega), get_f k l pos hl hn hp (by omega)]
    simp only [bindS, manyS]
    rcases hg : getG l pos with ⟨n, nx, e⟩
    simp only
    by_cases he : e = 0
    · obtain ⟨q, _, _, hq0, hq1, hq2, _⟩ := getG_next hg hl he
      rw [if_pos he, if_pos he, if_pos (by omega)]
      have := ih k nx (out ++ [n]) (by omega) (by omega) (by simp; omega)
      rw [show ((out ++ [n]).length + m : Nat) = out.length + (m + 1) by simp; omega] at this
      exact this
    · rw [if_neg he, if_neg he]
theorem many_f (k : Nat) (l : List Int) (pos many : Int) (hl : Bytes l) (hn : l.length ≤ 1000000) (hp : pos < 9223372036854775808) (hm : many ≤ 100000) (hk : 100100 ≤ k) :
    leb_Many.f k l pos many = some (if many < 0 then ([], 0, 1) else manyS l many.toNat pos []) := by
  simp only [leb_Many.f]
  by_cases h : many < 0
  · rw [if_pos h, if_pos h]
  · rw [if_neg h, if_neg h]
    have := many_loop l hl hn many.toNat k pos [] hp (by omega) (by simp; omega)
    rw [show (([] : List Int).length + many.toNat : Nat) = many.toNat by simp, Int.toNat_of_nonneg (by omega)] at this
    exact this

theorem numbers_loop (l m : List Int) (hm : l.length = m.length) (hn : l.length ≤ maxLen) (d : Nat) : ∀ (k i : Nat), i + d = l.length → d < k →
    thrumref03_SameNumbers.l0 k l m (l.length : Int) (i : Int) = some (decide (l.drop i = m.drop i)) := by
  induction d with
  | zero =>
    intro k i hi hk
    obtain ⟨k, rfl⟩ : ∃ m, k = m + 1 := ⟨k - 1, by omega⟩
    simp only [thrumref03_SameNumbers.l0]
    rw [if_neg (by omega), List.drop_of_length_le (by omega), List.drop_of_length_le (by omega)]
    rfl
  | succ d ih =>
    intro k i hi hk
    obtain ⟨k, rfl⟩ : ∃ m, k = m + 1 := ⟨k - 1, by omega⟩
    simp only [thrumref03_SameNumbers.l0]
    rw [if_pos (by omega), if_pos (by omega), if_pos (by omega), if_pos (by omega)]
    rw [rd_drop l i (by omega), rd_drop m i (by omega)]
    rw [wrap_next (by omega) (show (i : Int) < (l.length : Int) by omega) hn, show ((i : Int) + 1) = ((i + 1 : Nat) : Int) by omega, ih k (i + 1) (by omega) (by omega)]
    split <;> simp_all
theorem numbers_f (k : Nat) (l m : List Int) (hn : l.length ≤ maxLen) (hk : l.length < k) : thrumref03_SameNumbers.f k l m = some (decide (l = m)) := by
  simp only [thrumref03_SameNumbers.f]
  by_cases h : l.length = m.length
  · rw [if_pos (by omega)]
    have := numbers_loop l m h hn l.length k 0 (by omega) (by omega)
    simpa using this
  · rw [if_neg (by omega), decide_eq_false (fun e => h (by rw [e]))]
end Go.Proofs.Ytejhbmdjdbbnpaa.LebEq
