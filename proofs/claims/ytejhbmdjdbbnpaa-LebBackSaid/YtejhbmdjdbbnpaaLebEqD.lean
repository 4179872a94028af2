/- What the writing functions of layer 3 come to, the program's and the reference's; conditions: bytes, numbers of 64 bits, texts of at most a million bytes. -/
import Derived.Test.YtejhbmdjdbbnpaaMLebx6
import Derived.Test.YtejhbmdjdbbnpaaLebEqB
import Derived.Test.YtejhbmdjdbbnpaaLebEqC
namespace Go.Proofs.Ytejhbmdjdbbnpaa.LebEq
open Go.RowKit Go.Proofs.Ytejhbmdjdbbnpaa.MLeb Go.Proofs.Ytejhbmdjdbbnpaa.DrawPlain Go.Proofs.Ytejhbmdjdbbnpaa.LebPlain Go.Proofs.YtejhbmdjdbbnpaaW.PrintWords Go.Proofs.YtejhbmdjdbbnpaaW.PrintLast Go.Proofs.YtejhbmdjdbbnpaaW.PrintMore
set_option linter.unusedVariables false
set_option linter.unusedSimpArgs false

theorem rcode_f (j : Nat) : ∀ (k n : Nat), (codeS n).length ≤ j → j ≤ k → j < 1000000 → n < 18446744073709551616 → thrumref03_code.f k (n : Int) = some (codeS n) := by
  induction j with
  | zero => intro k n h; have := codeS_pos n; omega
  | succ j ih =>
    intro k n hj hk hm hn
    obtain ⟨k, rfl⟩ : ∃ m, k = m + 1 := ⟨k - 1, by omega⟩
    simp only [thrumref03_code.f]
    by_cases h : n < 128
    · rw [if_pos (by omega), codeS_small h, show (n : Int) % 256 = n by omega]
    · rw [codeS_big h] at hj ⊢
      simp only [List.length_cons] at hj
      rw [if_neg (by omega), bindS, Int.tdiv_eq_ediv_of_nonneg (by omega), Int.tmod_eq_emod_of_nonneg (by omega), u64_same (n := (n : Int) / 128) (by omega) (by omega)]
      rw [show (n : Int) / 128 = ((n / 128 : Nat) : Int) by omega, ih k (n / 128) (by omega) (by omega) (by omega) (by omega), bindS]
      rw [if_pos (by simp only [List.length_cons, List.length_nil]; omega), show ((n : Int) % 128 % 256 + 128) % 256 = ((n % 128 + 128 : Nat) : Int) by omega]
      rfl
theorem rcodeI_f (k : Nat) (x : Int) (h0 : 0 ≤ x) (h1 : x < 18446744073709551616) (hk : 10 ≤ k) : thrumref03_code.f k x = some (codeI x) := by
  obtain ⟨n, rfl⟩ := Int.eq_ofNat_of_zero_le h0
  rw [codeI, Int.toNat_natCast]
  exact rcode_f 10 k n (codeS_len_ten (by omega)) hk (by omega) (by omega)
theorem rzig_f {n : Int} (h0 : -9223372036854775808 ≤ n) (h1 : n < 9223372036854775808) : thrumref03_Zig.f n = some (zigZ n) := by
  simp only [thrumref03_Zig.f, zigZ]
  by_cases h : n < 0
  · rw [if_pos h, if_neg (by omega), wrap_same (i := n + 1) (by omega) (by omega), wrap_same (i := -(n + 1)) (by omega) (by omega), u64_same (n := -(n + 1)) (by omega) (by omega), u64_same (n := 2 * -(n + 1)) (by omega) (by omega), u64_same (by omega) (by omega)]
    congr 1
    omega
  · rw [if_neg h, if_pos (by omega), u64_same (n := n) (by omega) (by omega), u64_same (by omega) (by omega)]

theorem rPut_loop (l : List Int) (hw : Words l) (hn : l.length ≤ maxLen) (d : Nat) : ∀ (k i : Nat) (b : List Int), i + d = l.length → d + 10 < k → b.length + 10 * d + 10 < 140737488355328 →
    thrumref03_Put.l0 k b l (l.length : Int) (i : Int) = some (b ++ codesI (l.drop i)) := by
  induction d with
  | zero =>
    intro k i b hi hk hb
    obtain ⟨k, rfl⟩ : ∃ m, k = m + 1 := ⟨k - 1, by omega⟩
    simp only [thrumref03_Put.l0]
    rw [if_neg (by omega), List.drop_of_length_le (by omega)]
    simp [codesI]
  | succ d ih =>
    intro k i b hi hk hb
    obtain ⟨k, rfl⟩ : ∃ m, k = m + 1 := ⟨k - 1, by omega⟩
    obtain ⟨r0, r1⟩ := Words.rd hw i (by omega)
    have hc := codeI_len r1
    simp only [thrumref03_Put.l0]
    rw [if_pos (by omega), if_pos (by omega), if_pos (by omega), rcodeI_f k _ r0 r1 (by omega), bindS, if_pos (by omega)]
    rw [wrap_next (by omega) (show (i : Int) < (l.length : Int) by omega) hn, show ((i : Int) + 1) = ((i + 1 : Nat) : Int) by omega]
    rw [ih k (i + 1) _ (by omega) (by omega) (by simp only [List.length_append]; omega), rd_drop l i (by omega), codesI_cons, List.append_assoc]
theorem rPut_f (k : Nat) (b l : List Int) (hw : Words l) (hn : l.length ≤ 1000000) (hb : b.length ≤ 1000000) (hk : l.length + 10 < k) : thrumref03_Put.f k b l = some (b ++ codesI l) := by
  simp only [thrumref03_Put.f]
  rw [if_pos (by simp only [List.length_nil]; omega), List.nil_append]
  have := rPut_loop l hw (by simp only [maxLen]; omega) l.length k 0 b (by omega) (by omega) (by omega)
  simpa using this

/-- Whole numbers of 64 bits with a sign. -/
def Ints (l : List Int) : Prop := ∀ x ∈ l, -9223372036854775808 ≤ x ∧ x < 9223372036854775808
theorem Ints.rd {l : List Int} (h : Ints l) (i : Nat) (hi : i < l.length) : -9223372036854775808 ≤ rd l (i : Int) ∧ rd l (i : Int) < 9223372036854775808 := by
  have e : Go.Proofs.YtejhbmdjdbbnpaaW.PrintWords.rd l (i : Int) = l[i] := by simp [rd_nat, List.getD_eq_getElem?_getD, List.getElem?_eq_getElem hi]
  rw [e]
  exact h _ (List.getElem_mem hi)
theorem Ints.zig {l : List Int} (h : Ints l) : Words (l.map zigZ) := by
  intro x hx
  obtain ⟨y, hy, rfl⟩ := List.mem_map.1 hx
  obtain ⟨y0, y1⟩ := h y hy
  exact zigZ_range y0 y1

theorem Signed_loop (l : List Int) (hw : Ints l) (hn : l.length ≤ maxLen) (d : Nat) : ∀ (k i : Nat) (b : List Int), i + d = l.length → d + 10 < k → b.length + 10 * d + 10 < 140737488355328 →
    leb_Signed.l0 k b l (l.length : Int) (i : Int) = some (b ++ codesI ((l.drop i).map zigZ)) := by
  induction d with
  | zero =>
    intro k i b hi hk hb
    obtain ⟨k, rfl⟩ : ∃ m, k = m + 1 := ⟨k - 1, by omega⟩
    simp only [leb_Signed.l0]
    rw [if_neg (by omega), List.drop_of_length_le (by omega)]
    simp [codesI]
  | succ d ih =>
    intro k i b hi hk hb
    obtain ⟨k, rfl⟩ : ∃ m, k = m + 1 := ⟨k - 1, by omega⟩
    obtain ⟨r0, r1⟩ := Ints.rd hw i (by omega)
    obtain ⟨z0, z1⟩ := zigZ_range r0 r1
    have hc := codeI_len z1
    simp only [leb_Signed.l0]
    rw [if_pos (by omega), if_pos (by omega), if_pos (by omega), zig_f r0 r1, bindS, put_f k b _ z0 z1 (by omega) (by omega), bindS]
    rw [wrap_next (by omega) (show (i : Int) < (l.length : Int) by omega) hn, show ((i : Int) + 1) = ((i + 1 : Nat) : Int) by omega]
    rw [ih k (i + 1) _ (by omega) (by omega) (by simp only [List.length_append]; omega), rd_drop l i (by omega), List.map_cons, codesI_cons, List.append_assoc]
theorem Signed_f (k : Nat) (b l : List Int) (hw : Ints l) (hn : l.length ≤ 1000000) (hb : b.length ≤ 1000000) (hk : l.length + 10 < k) : leb_Signed.f k b l = some (b ++ codesI (l.map zigZ)) := by
  simp only [leb_Signed.f, clone_f b (by omega), bindS]
  have := Signed_loop l hw (by simp only [maxLen]; omega) l.length k 0 b (by omega) (by omega) (by omega)
  simpa using this
theorem rSigned_loop (l : List Int) (hw : Ints l) (hn : l.length ≤ maxLen) (d : Nat) : ∀ (k i : Nat) (b : List Int), i + d = l.length → d + 10 < k → b.length + 10 * d + 10 < 140737488355328 →
    thrumref03_Signed.l0 k b l (l.length : Int) (i : Int) = some (b ++ codesI ((l.drop i).map zigZ)) := by
  induction d with
  | zero =>
    intro k i b hi hk hb
    obtain ⟨k, rfl⟩ : ∃ m, k = m + 1 := ⟨k - 1, by omega⟩
    simp only [thrumref03_Signed.l0]
    rw [if_neg (by omega), List.drop_of_length_le (by omega)]
    simp [codesI]
  | succ d ih =>
    intro k i b hi hk hb
    obtain ⟨k, rfl⟩ : ∃ m, k = m + 1 := ⟨k - 1, by omega⟩
    obtain ⟨r0, r1⟩ := Ints.rd hw i (by omega)
    obtain ⟨z0, z1⟩ := zigZ_range r0 r1
    have hc := codeI_len z1
    simp only [thrumref03_Signed.l0]
    rw [if_pos (by omega), if_pos (by omega), if_pos (by omega), rzig_f r0 r1, bindS, rcodeI_f k _ z0 z1 (by omega), bindS, if_pos (by omega)]
    rw [wrap_next (by omega) (show (i : Int) < (l.length : Int) by omega) hn, show ((i : Int) + 1) = ((i + 1 : Nat) : Int) by omega]
    rw [ih k (i + 1) _ (by omega) (by omega) (by simp only [List.length_append]; omega), rd_drop l i (by omega), List.map_cons, codesI_cons, List.append_assoc]
theorem rSigned_f (k : Nat) (b l : List Int) (hw : Ints l) (hn : l.length ≤ 1000000) (hb : b.length ≤ 1000000) (hk : l.length + 10 < k) : thrumref03_Signed.f k b l = some (b ++ codesI (l.map zigZ)) := by
  simp only [thrumref03_Signed.f]
  rw [if_pos (by simp only [List.length_nil]; omega), List.nil_append]
  have := rSigned_loop l hw (by simp only [maxLen]; omega) l.length k 0 b (by omega) (by omega) (by omega)
  simpa using this
theorem rSize_f (k : Nat) (x : Int) (h0 : 0 ≤ x) (h1 : x < 18446744073709551616) (hk : 10 ≤ k) : thrumref03_Size.f k x = some ((codeI x).length : Int) := by
  simp only [thrumref03_Size.f, rcodeI_f k x h0 h1 hk, bindS]
end Go.Proofs.Ytejhbmdjdbbnpaa.LebEq
