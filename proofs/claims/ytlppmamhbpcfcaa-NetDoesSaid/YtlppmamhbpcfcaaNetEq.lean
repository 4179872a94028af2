/- What the functions of layer 21 come to in plain words: copying, places, sending, giving; conditions: few things underway, texts no longer than memory allows. -/
import Derived.Test.YtlppmamhbpcfcaaPNA
import Derived.Test.YtlppmamhbpcfcaaPNB
import Derived.Test.YtlppmamhbpcfcaaGrams
namespace Go.Proofs.Ytlppmamhbpcfcaa.NetEq
open Go.RowKit Go.Proofs.Ytlppmamhbpcfcaa.MNet Go.Proofs.Ytlppmamhbpcfcaa.Plain Go.Proofs.YtlppmamhbpcfcaaW.PrintWords Go.Proofs.YtlppmamhbpcfcaaW.PrintLast Go.Proofs.YtlppmamhbpcfcaaW.PrintMore
set_option linter.unusedVariables false
set_option linter.unusedSimpArgs false

/-- No text is longer than memory allows. -/
def Held (l : List S40) : Prop := ∀ x ∈ l, x.f1.length ≤ reachBytes
theorem GramsOk.held {l : List S40} (h : GramsOk l) : Held l := fun x hx => (h x hx).2.2
theorem Held.take {l : List S40} (h : Held l) (n : Nat) : Held (l.take n) := fun x hx => h x (List.mem_of_mem_take hx)
theorem Held.erase {l : List S40} (h : Held l) (n : Nat) : Held (l.eraseIdx n) := fun x hx => h x (List.mem_of_mem_eraseIdx hx)
theorem Held.append {a b : List S40} (ha : Held a) (hb : Held b) : Held (a ++ b) := fun x hx => (List.mem_append.1 hx).elim (ha x) (hb x)
theorem rdT_nat (l : List S40) (i : Nat) (h : i < l.length) : rd_T40 l (i : Int) = l[i] := by
  simp [rd_T40, List.getD_eq_getElem?_getD, h]
theorem own_f (a : Int) (b : List Int) (h : b.length ≤ reachBytes) : net_own.f a b = some (a, b) := by
  have hr := reachBytes_lt
  simp only [net_own.f, slices_Clone_byte_byte.f, bindS]
  rw [if_pos (by simp; omega), List.nil_append, bindS]
theorem next_at (k : Nat) (h : k < 9000000000000000000) : wrap64 ((k : Int) + 1) = ((k + 1 : Nat) : Int) := by
  rw [wrap_same (by omega) (by omega)]
  omega
theorem copied_loop (l : List S40) (hl : Held l) (hn : l.length < 4398046511104) (d : Nat) : ∀ (i F : Nat), i + d = l.length → net_copied.l0 (F + d + 1) (l.take i) l (l.length : Int) (i : Int) = some l := by
  induction d with
  | zero =>
    intro i F hi
    rw [net_copied.l0, if_neg (by omega), List.take_of_length_le (by omega)]
  | succ d ih =>
    intro i F hi
    have hil : i < l.length := by omega
    rw [show F + (d + 1) + 1 = (F + d + 1) + 1 by omega, net_copied.l0, if_pos (by omega), if_pos (by omega), if_pos (by omega), rdT_nat l i hil, own_f _ _ (hl _ (List.getElem_mem hil)), bindS]
    rw [if_pos (by rw [List.length_take]; omega), next_at i (by omega)]
    have e : l.take i ++ [(⟨l[i].f0, l[i].f1⟩ : S40)] = l.take (i + 1) := by
      rw [List.take_add_one, List.getElem?_eq_getElem hil]
      rfl
    simp only
    rw [e]
    exact ih (i + 1) F (by omega)
theorem copied_f (k : Nat) (l : List S40) (hl : Held l) (hn : l.length ≤ 1000000) (hk : l.length < k) : net_copied.f k l = some l := by
  simp only [net_copied.f]
  rw [if_pos (by omega)]
  have := copied_loop l hl (by omega) l.length 0 (k - l.length - 1) (by omega)
  rw [show k - l.length - 1 + l.length + 1 = k by omega, List.take_zero] at this
  exact this
theorem at_f (k : Nat) (l : List S40) (n : Int) (hk : 3 ≤ k) : net_at.f k l [n] = some (decide (0 ≤ n ∧ n < (l.length : Int))) := by
  obtain ⟨k, rfl⟩ : ∃ j, k = j + 2 := ⟨k - 2, by omega⟩
  simp only [net_at.f, slices_ContainsFunc_int_int.f, slices_IndexFunc_int_int.f]
  have hr : rd [n] 0 = n := rfl
  rw [slices_IndexFunc_int_int.l0, if_pos (by simp), if_pos (by omega), if_pos (by simp), hr]
  by_cases h1 : n < 0
  · rw [if_pos h1, bindS, bindS]
    simp [h1]
    omega
  · rw [if_neg h1]
    by_cases h2 : n ≥ (l.length : Int)
    · rw [if_pos h2, bindS, bindS]
      simp
      omega
    · rw [if_neg h2, slices_IndexFunc_int_int.l0, if_neg (by simp [wrap64]), bindS, bindS]
      simp
      omega
/-- How many there is room for. -/
def roomS (l g : List S40) : Nat := min (512 - l.length) g.length
theorem room_eq (l g : List S40) (hl : l.length ≤ 1000000) (hg : g.length ≤ 1000000) : mn (mx (wrap64 (512 - (l.length : Int))) 0) (g.length : Int) = (roomS l g : Int) := by
  rw [wrap_same (by omega) (by omega)]
  unfold mn mx roomS
  split <;> split <;> omega
theorem Send_f (k : Nat) (l g : List S40) (hl : Held l) (hg : Held g) (h1 : l.length ≤ 1000) (h2 : g.length ≤ 1000) (hk : 2000 < k) : net_Send.f k l g = some (l ++ g.take (roomS l g), (g.length : Int) - (roomS l g : Int)) := by
  have hr : roomS l g ≤ g.length := Nat.min_le_right _ _
  simp only [net_Send.f]
  rw [copied_f k l hl (by omega) (by omega), bindS, room_eq l g (by omega) (by omega), if_pos (by omega), if_pos (by omega), Int.toNat_natCast]
  rw [copied_f k _ (hg.take _) (by rw [List.length_take]; omega) (by rw [List.length_take]; omega), bindS, if_pos (by rw [List.length_take]; omega), wrap_same (by omega) (by omega)]
theorem Give_f (k : Nat) (l : List S40) (n : Int) (hl : Held l) (h1 : l.length ≤ 100000) (hk : 100002 < k) :
    net_Give.f k l n = if 0 ≤ n ∧ n < (l.length : Int) then some ((rd_T40 l n).f0, (rd_T40 l n).f1, l.eraseIdx n.toNat, 0) else some (0, [], l, 1) := by
  simp only [net_Give.f]
  rw [copied_f k l hl (by omega) (by omega), bindS, at_f k l n (by omega), bindS]
  by_cases h : 0 ≤ n ∧ n < (l.length : Int)
  · rw [if_pos (decide_eq_true h), if_pos h.1, if_pos h.2, if_pos h]
  · rw [if_neg (by simpa using h), if_neg h]
theorem live_eq (k : Nat) (hk : 60 ≤ k) : thrumlaw21_live.f k = some true :=
  at_rounds thrumlaw21_live.mono hk (by decide +kernel)
theorem few_loop (l : List S40) (hn : l.length ≤ maxLen) (d : Nat) : ∀ (i F : Nat) (s : Int), i + d = l.length → ∃ b, thrumref21_Few.l0 (F + d + 1) l s l (l.length : Int) (i : Int) = some b ∧ (b = true → l.length ≤ 600) := by
  induction d with
  | zero =>
    intro i F s hi
    rw [thrumref21_Few.l0, if_neg (by omega)]
    by_cases h : (l.length : Int) ≤ 600
    · rw [if_pos h]
      exact ⟨_, rfl, fun _ => by omega⟩
    · rw [if_neg h]
      exact ⟨_, rfl, fun e => absurd e (by decide)⟩
  | succ d ih =>
    intro i F s hi
    rw [show F + (d + 1) + 1 = (F + d + 1) + 1 by omega, thrumref21_Few.l0, if_pos (by omega), if_pos (by omega), if_pos (by omega), wrap_next (by omega) (show (i : Int) < (l.length : Int) by omega) hn, show ((i : Int) + 1) = ((i + 1 : Nat) : Int) by omega]
    exact ih (i + 1) F _ (by omega)
theorem few_f (k : Nat) (l : List S40) (hn : l.length ≤ maxLen) (hk : l.length < k) : ∃ b, thrumref21_Few.f k l = some b ∧ (b = true → l.length ≤ 600) := by
  have := few_loop l hn l.length 0 (k - l.length - 1) 0 (by omega)
  rw [show k - l.length - 1 + l.length + 1 = k by omega] at this
  exact this
theorem one_refl (a : Int) (b : List Int) : thrumref21_One.f a b a b = some true := by
  simp only [thrumref21_One.f]
  rw [if_pos trivial]
  simp only [thrumref03_Same.f, bindS]
  simp
theorem same_loop (l : List S40) (hn : l.length ≤ 1000000) (d : Nat) : ∀ (i F : Nat), i + d = l.length → thrumref21_Same.l0 (F + d + 1) l l (l.length : Int) (i : Int) = some true := by
  induction d with
  | zero =>
    intro i F hi
    rw [thrumref21_Same.l0, if_neg (by omega)]
  | succ d ih =>
    intro i F hi
    rw [show F + (d + 1) + 1 = (F + d + 1) + 1 by omega, thrumref21_Same.l0, if_pos (by omega), if_pos (by omega), if_pos (by omega), if_pos (by omega), one_refl, bindS, if_pos rfl, next_at i (by omega)]
    exact ih (i + 1) F (by omega)
theorem same_refl (k : Nat) (l : List S40) (hn : l.length ≤ 1000000) (hk : l.length < k) : thrumref21_Same.f k l l = some true := by
  simp only [thrumref21_Same.f]
  rw [if_pos trivial]
  have := same_loop l hn l.length 0 (k - l.length - 1) (by omega)
  rw [show k - l.length - 1 + l.length + 1 = k by omega] at this
  exact this
end Go.Proofs.Ytlppmamhbpcfcaa.NetEq
