/- What the reference's reading of layer 3 comes to: the same as the program's; conditions: bytes, texts of at most a million bytes. -/
import Derived.Test.YtejhbmdjdbbnpaaMLebx5
import Derived.Test.YtejhbmdjdbbnpaaLebEqA
namespace Go.Proofs.Ytejhbmdjdbbnpaa.LebEq
open Go.RowKit Go.Proofs.Ytejhbmdjdbbnpaa.MLeb Go.Proofs.Ytejhbmdjdbbnpaa.DrawPlain Go.Proofs.Ytejhbmdjdbbnpaa.LebPlain Go.Proofs.YtejhbmdjdbbnpaaW.PrintWords Go.Proofs.YtejhbmdjdbbnpaaW.PrintLast Go.Proofs.YtejhbmdjdbbnpaaW.PrintMore
set_option linter.unusedVariables false
set_option linter.unusedSimpArgs false

theorem rzag_f {m : Int} (h0 : 0 ≤ m) (h1 : m < 18446744073709551616) : thrumref03_Zag.f m = some (zagZ m) := by
  simp only [thrumref03_Zag.f, zagZ]
  rw [Int.tmod_eq_emod_of_nonneg h0, Int.tdiv_eq_ediv_of_nonneg h0, u64_same (n := m / 2) (by omega) (by omega), wrap_same (i := m / 2) (by omega) (by omega)]
  by_cases h : m % 2 = 1
  · rw [if_pos h, if_neg (by omega), wrap_same (i := -(m / 2)) (by omega) (by omega), wrap_same (by omega) (by omega)]
  · rw [if_neg h, if_pos (by omega)]

theorem accS_ref (acc : Int) (c k : Nat) (hc : c < 256) (hk : k ≤ 9) : Go.bits .or .u64 acc (shl .u64 (IntKind.u64.wrap (Int.tmod (c : Int) 128)) (wrap64 (7 * (k : Int)))) = accS acc (c : Int) k := by
  rw [Int.tmod_eq_emod_of_nonneg (by omega), u64_same (by omega) (by omega), wrap_same (by omega) (by omega), accS]

theorem rget_step (l : List Int) (hl : Bytes l) (pos : Int) (h0 : 0 ≤ pos) (h1 : pos < 9223372036854775808) (hn : l.length ≤ 1000000) (k i : Nat) (acc : Int) (hi : i ≤ 9) :
    thrumref03_Get.l0 (k + 3) l pos acc (i : Int) =
      if pos.toNat + i < l.length then (if (i = 9 ∧ rd l ((pos.toNat + i : Nat) : Int) > 1) ∨ (rd l ((pos.toNat + i : Nat) : Int) = 0 ∧ 0 < i) then some (0, 0, 6) else if rd l ((pos.toNat + i : Nat) : Int) < 128 then some (accS acc (rd l ((pos.toNat + i : Nat) : Int)) i, pos + i + 1, 0)
        else thrumref03_Get.l0 k l pos (accS acc (rd l ((pos.toNat + i : Nat) : Int)) i) ((i + 1 : Nat) : Int)) else some (0, 0, 5) := by
  simp only [thrumref03_Get.l0]
  rw [if_pos (by omega)]
  by_cases hlt : pos.toNat + i < l.length
  · obtain ⟨c0, c1⟩ := Bytes.rd hl (pos.toNat + i) hlt
    rw [if_neg (by omega), if_pos hlt, wrap_same (i := (l.length : Int) - pos) (by omega) (by omega), decide_eq_false (by omega)]
    simp only [thrumref03_Get.j1]
    rw [if_neg (by simp), wrap_same (i := pos + (i : Int)) (by omega) (by omega), if_pos (by omega), if_pos (by omega)]
    rw [show pos + (i : Int) = ((pos.toNat + i : Nat) : Int) by omega]
    generalize rd l ((pos.toNat + i : Nat) : Int) = c at *
    obtain ⟨c, rfl⟩ := Int.eq_ofNat_of_zero_le c0
    have hj2 : ∀ b : Bool, thrumref03_Get.j2 (k + 1) l pos acc (i : Int) (c : Int) (i : Int) b =
        if b = true ∨ (c = 0 ∧ 0 < i) then some (0, 0, 6) else if (c : Int) < 128 then some (accS acc (c : Int) i, pos + i + 1, 0) else thrumref03_Get.l0 k l pos (accS acc (c : Int) i) ((i + 1 : Nat) : Int) := by
      intro b
      simp only [thrumref03_Get.j2]
      rw [accS_ref acc c i (by omega) hi, wrap_same (i := 7 * (i : Int)) (by omega) (by omega), if_pos (show (0 : Int) ≤ 7 * (i : Int) by omega)]
      rw [wrap_same (i := pos + (i : Int)) (by omega) (by omega), wrap_same (i := pos + (i : Int) + 1) (by omega) (by omega), wrap_same (i := (i : Int) + 1) (by omega) (by omega)]
      cases b
      · by_cases hc : (c : Int) < 128
        · by_cases hz : c = 0
          · subst hz
            by_cases hi0 : 0 < i
            · simp [hi0]
            · simp [hi0]
          · simp [hz, hc]
        · have : c ≠ 0 := by omega
          simp [hc, this]
      · simp
    rw [show ((pos.toNat + i : Nat) : Int) + 1 = pos + (i : Int) + 1 by omega]
    by_cases h9 : i = 9
    · rw [if_pos (by omega), hj2]
      subst h9
      by_cases hc1 : (c : Int) > 1
      · rw [if_pos (.inl (by simpa using hc1)), if_pos (.inl ⟨rfl, hc1⟩)]
      · by_cases hc0 : c = 0
        · rw [if_pos (.inr ⟨hc0, by omega⟩), if_pos (.inr ⟨by omega, by omega⟩)]
        · rw [if_neg (by simp; omega), if_neg (show ¬ ((9 = 9 ∧ (c : Int) > 1) ∨ ((c : Int) = 0 ∧ 0 < 9)) by omega)]
    · rw [if_neg (by omega), hj2]
      by_cases hc0 : c = 0 ∧ 0 < i
      · rw [if_pos (.inr hc0), if_pos (.inr ⟨by omega, by omega⟩)]
      · rw [if_neg (by simp; omega), if_neg (show ¬ ((i = 9 ∧ (c : Int) > 1) ∨ ((c : Int) = 0 ∧ 0 < i)) by omega)]
  · rw [if_neg hlt]
    by_cases hge : pos ≥ (l.length : Int)
    · rw [if_pos hge]
      simp only [thrumref03_Get.j1]
      rw [if_pos (by simp)]
    · rw [if_neg hge, wrap_same (i := (l.length : Int) - pos) (by omega) (by omega), decide_eq_true (by omega)]
      simp only [thrumref03_Get.j1]
      rw [if_pos (by simp)]
theorem rget_loop (l : List Int) (hl : Bytes l) (pos : Int) (h0 : 0 ≤ pos) (h1 : pos < 9223372036854775808) (hn : l.length ≤ 1000000) (d : Nat) : ∀ (k i : Nat) (acc : Int), i + d = 9 → 3 * d + 4 ≤ k →
    thrumref03_Get.l0 k l pos acc (i : Int) = some (getS pos (l.drop (pos.toNat + i)) i acc) := by
  induction d with
  | zero =>
    intro k i acc hi hk
    obtain ⟨k, rfl⟩ : ∃ m, k = m + 3 := ⟨k - 3, by omega⟩
    obtain rfl : i = 9 := by omega
    rw [rget_step l hl pos h0 h1 hn k 9 acc (by omega)]
    by_cases hlt : pos.toNat + 9 < l.length
    · rw [if_pos hlt, rd_drop l _ hlt]
      simp only [getS]
      split
      · rfl
      · rename_i hno
        have hc : rd l ((pos.toNat + 9 : Nat) : Int) ≤ 1 := by
          by_cases h : rd l ((pos.toNat + 9 : Nat) : Int) ≤ 1
          · exact h
          · exact (hno (.inl ⟨by first | rfl | trivial, by omega⟩)).elim
        rw [if_pos (by omega), if_pos (by omega)]
    · rw [if_neg hlt, List.drop_of_length_le (by omega)]
      rfl
  | succ d ih =>
    intro k i acc hi hk
    obtain ⟨k, rfl⟩ : ∃ m, k = m + 3 := ⟨k - 3, by omega⟩
    rw [rget_step l hl pos h0 h1 hn k i acc (by omega)]
    by_cases hlt : pos.toNat + i < l.length
    · rw [if_pos hlt, rd_drop l _ hlt]
      simp only [getS]
      split
      · rfl
      · split
        · rfl
        · exact ih k (i + 1) _ (by omega) (by omega)
    · rw [if_neg hlt, List.drop_of_length_le (by omega)]
      rfl
theorem rget_f (k : Nat) (l : List Int) (pos : Int) (hl : Bytes l) (hn : l.length ≤ 1000000) (hp : pos < 9223372036854775808) (hk : 40 ≤ k) : thrumref03_Get.f k l pos = some (getG l pos) := by
  simp only [thrumref03_Get.f, getG]
  by_cases h : pos < 0
  · rw [if_pos h, if_pos h]
  · rw [if_neg h, if_neg h]
    exact rget_loop l hl pos (by omega) hp hn 9 k 0 0 (by omega) (by omega)
theorem rmany_loop (l : List Int) (hl : Bytes l) (hn : l.length ≤ 1000000) (m : Nat) : ∀ (k i : Nat) (pos : Int) (out : List Int), pos < 9223372036854775808 → m + 45 ≤ k → out.length + m ≤ 1000000 → i + m ≤ 1000000 →
    thrumref03_Many.l0 k l pos out ((i + m : Nat) : Int) (i : Int) = some (manyS l m pos out) := by
  induction m with
  | zero =>
    intro k i pos out hp hk ho hi
    obtain ⟨k, rfl⟩ : ∃ q, k = q + 1 := ⟨k - 1, by omega⟩
    simp only [thrumref03_Many.l0]
    rw [if_neg (by omega)]
    rfl
  | succ m ih =>
    intro k i pos out hp hk ho hi
    obtain ⟨k, rfl⟩ : ∃ q, k = q + 1 := ⟨k - 1, by omega⟩
    simp only [thrumref03_Many.l0]
    rw [if_pos (by omega), rget_f k l pos hl hn hp (by omega)]
    simp only [bindS, manyS]
    rcases hg : getG l pos with ⟨n, nx, e⟩
    simp only
    by_cases he : e = 0
    · obtain ⟨q, _, _, hq0, hq1, hq2, _⟩ := getG_next hg hl he
      rw [if_pos he, if_pos he, if_pos (by omega)]
      have := ih k (i + 1) nx (out ++ [n]) (by omega) (by omega) (by simp; omega) (by omega)
      rw [wrap_same (by omega) (by omega), show ((i : Int) + 1) = ((i + 1 : Nat) : Int) by omega, show (i + (m + 1) : Nat) = i + 1 + m by omega]
      exact this
    · rw [if_neg he, if_neg he]
theorem rmany_f (k : Nat) (l : List Int) (pos many : Int) (hl : Bytes l) (hn : l.length ≤ 1000000) (hp : pos < 9223372036854775808) (hm : many ≤ 100000) (hk : 100100 ≤ k) :
    thrumref03_Many.f k l pos many = some (if many < 0 then ([], 0, 1) else manyS l many.toNat pos []) := by
  simp only [thrumref03_Many.f]
  by_cases h : many < 0
  · rw [if_pos h, if_pos h]
  · rw [if_neg h, if_neg h]
    have := rmany_loop l hl hn many.toNat k 0 pos [] hp (by omega) (by simp; omega) (by omega)
    rw [show ((0 + many.toNat : Nat) : Int) = many by omega] at this
    exact this
theorem getG_range (l : List Int) (pos : Int) (hl : Bytes l) : (getG l pos).2.2 = 0 → 0 ≤ (getG l pos).1 ∧ (getG l pos).1 < 18446744073709551616 := by
  intro h
  obtain ⟨m, h1, h2, _⟩ := getG_next (n := (getG l pos).1) (nx := (getG l pos).2.1) (e := (getG l pos).2.2) rfl hl h
  omega
def takeG (l : List Int) (pos : Int) : Int × Int × Int := if (getG l pos).2.2 = 0 then (zagZ (getG l pos).1, (getG l pos).2.1, 0) else (0, 0, (getG l pos).2.2)
theorem take_f (k : Nat) (l : List Int) (pos : Int) (hl : Bytes l) (hn : l.length ≤ 1000000) (hp : pos < 9223372036854775808) (hk : 40 ≤ k) : leb_Take.f k l pos = some (takeG l pos) := by
  simp only [leb_Take.f, get_f k l pos hl hn hp hk, bindS, takeG]
  by_cases h : (getG l pos).2.2 = 0
  · obtain ⟨g0, g1⟩ := getG_range l pos hl h
    rw [if_pos h, if_pos h, zag_f g0 g1]
    rfl
  · rw [if_neg h, if_neg h]
theorem rtake_f (k : Nat) (l : List Int) (pos : Int) (hl : Bytes l) (hn : l.length ≤ 1000000) (hp : pos < 9223372036854775808) (hk : 40 ≤ k) : thrumref03_Take.f k l pos = some (takeG l pos) := by
  simp only [thrumref03_Take.f, rget_f k l pos hl hn hp hk, bindS, takeG]
  by_cases h : (getG l pos).2.2 = 0
  · obtain ⟨g0, g1⟩ := getG_range l pos hl h
    rw [if_pos h, if_pos h, rzag_f g0 g1]
    rfl
  · rw [if_neg h, if_neg h]
theorem manyS_len (l : List Int) (m : Nat) : ∀ (pos : Int) (out : List Int), (manyS l m pos out).1.length ≤ out.length + m := by
  induction m with
  | zero => intro pos out; simp [manyS]
  | succ m ih =>
    intro pos out
    simp only [manyS]
    split
    · have := ih (getG l pos).2.1 (out ++ [(getG l pos).1])
      simp only [List.length_append, List.length_cons, List.length_nil] at this
      omega
    · simp
theorem wf_u8 {n : Int} (h : (Lit.int .u8 n).wf = true) : 0 ≤ n ∧ n < 256 := by
  simp only [Lit.wf, IntKind.min, IntKind.max, IntKind.signed, IntKind.bits, Bool.and_eq_true] at h
  simp at h
  omega
end Go.Proofs.Ytejhbmdjdbbnpaa.LebEq
