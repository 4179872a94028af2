/- What the document's functions of layer 21 come to in plain words: the same as the program's own; conditions: few things underway, texts no longer than memory allows. -/
import Derived.Test.YtlppmamhbpcfcaaPNR
import Derived.Test.YtlppmamhbpcfcaaPNX
import Derived.Test.YtlppmamhbpcfcaaNetEqB
namespace Go.Proofs.Ytlppmamhbpcfcaa.NetEq
open Go.RowKit Go.Proofs.Ytlppmamhbpcfcaa.MNet Go.Proofs.Ytlppmamhbpcfcaa.Plain Go.Proofs.YtlppmamhbpcfcaaW.PrintWords Go.Proofs.YtlppmamhbpcfcaaW.PrintLast Go.Proofs.YtlppmamhbpcfcaaW.PrintMore
set_option linter.unusedVariables false
set_option linter.unusedSimpArgs false

theorem rCopy_loop (l : List S40) (hl : Held l) (hn : l.length < 4398046511104) (d : Nat) : ∀ (i F : Nat), i + d = l.length → thrumref21_Copy.l0 (F + d + 1) (l.take i) l (l.length : Int) (i : Int) = some l := by
  have hr := reachBytes_lt
  induction d with
  | zero =>
    intro i F hi
    rw [thrumref21_Copy.l0, if_neg (by omega), List.take_of_length_le (by omega)]
  | succ d ih =>
    intro i F hi
    have hil : i < l.length := by omega
    have hx := hl _ (List.getElem_mem hil)
    rw [show F + (d + 1) + 1 = (F + d + 1) + 1 by omega, thrumref21_Copy.l0, if_pos (by omega), if_pos (by omega), if_pos (by omega), rdT_nat l i hil, if_pos (by simp only [List.length_nil]; omega)]
    rw [if_pos (by rw [List.length_take]; omega), next_at i (by omega), List.nil_append]
    have e : l.take i ++ [(⟨l[i].f0, l[i].f1⟩ : S40)] = l.take (i + 1) := by
      rw [List.take_add_one, List.getElem?_eq_getElem hil]
      rfl
    rw [e]
    exact ih (i + 1) F (by omega)
theorem rCopy_f (k : Nat) (l : List S40) (hl : Held l) (hn : l.length ≤ 1000000) (hk : l.length < k) : thrumref21_Copy.f k l = some l := by
  simp only [thrumref21_Copy.f]
  have := rCopy_loop l hl (by omega) l.length 0 (k - l.length - 1) (by omega)
  rw [show k - l.length - 1 + l.length + 1 = k by omega, List.take_zero] at this
  exact this
theorem rSend_loop (l g : List S40) (hg : Held g) (h1 : l.length ≤ 1000) (h2 : g.length ≤ 1000) (d : Nat) : ∀ (i F : Nat), i + d = g.length →
    thrumref21_Send.l0 (F + d + 1) (l ++ g.take (min i (512 - l.length))) ((i - min i (512 - l.length) : Nat) : Int) g (g.length : Int) (i : Int) = some (l ++ g.take (roomS l g), (g.length : Int) - (roomS l g : Int)) := by
  have hr := reachBytes_lt
  induction d with
  | zero =>
    intro i F hi
    have e : min i (512 - l.length) = roomS l g := by unfold roomS; omega
    have hle : roomS l g ≤ g.length := Nat.min_le_right _ _
    rw [thrumref21_Send.l0, if_neg (by omega), e]
    congr 2
    omega
  | succ d ih =>
    intro i F hi
    have hil : i < g.length := by omega
    have hx := hg _ (List.getElem_mem hil)
    have hlen : (l ++ g.take (min i (512 - l.length))).length = l.length + min i (512 - l.length) := by rw [List.length_append, List.length_take]; omega
    rw [show F + (d + 1) + 1 = (F + d + 1) + 1 by omega, thrumref21_Send.l0, if_pos (by omega), if_pos (by omega), if_pos (by omega), hlen, next_at i (by omega)]
    by_cases h : 512 - l.length ≤ i
    · have e1 : min i (512 - l.length) = 512 - l.length := by omega
      have e2 : min (i + 1) (512 - l.length) = 512 - l.length := by omega
      have hi2 := ih (i + 1) F (by omega)
      rw [e2] at hi2
      rw [if_pos (by omega), next_at _ (by omega), e1, show i - (512 - l.length) + 1 = i + 1 - (512 - l.length) by omega]
      exact hi2
    · have e1 : min i (512 - l.length) = i := by omega
      have e2 : min (i + 1) (512 - l.length) = i + 1 := by omega
      have hi2 := ih (i + 1) F (by omega)
      rw [e2] at hi2
      rw [if_neg (by omega), rdT_nat g i hil, if_pos (by simp only [List.length_nil]; omega), if_pos (by omega), e1, List.nil_append, List.append_assoc]
      have e : g.take i ++ [(⟨g[i].f0, g[i].f1⟩ : S40)] = g.take (i + 1) := by
        rw [List.take_add_one, List.getElem?_eq_getElem hil]
        rfl
      rw [e, show i - i = i + 1 - (i + 1) by omega]
      exact hi2
theorem rSend_f (k : Nat) (l g : List S40) (hl : Held l) (hg : Held g) (h1 : l.length ≤ 1000) (h2 : g.length ≤ 1000) (hk : 2000 < k) : thrumref21_Send.f k l g = some (l ++ g.take (roomS l g), (g.length : Int) - (roomS l g : Int)) := by
  simp only [thrumref21_Send.f]
  rw [rCopy_f k l hl (by omega) (by omega), bindS]
  have := rSend_loop l g hg h1 h2 g.length 0 (k - g.length - 1) (by omega)
  rw [show k - g.length - 1 + g.length + 1 = k by omega, Nat.zero_min, List.take_zero, List.append_nil] at this
  exact this
theorem rIs_f (l : List S40) (n : Int) : thrumref21_is.f l n = some (decide (0 ≤ n ∧ n < (l.length : Int))) := by
  simp only [thrumref21_is.f]
  by_cases h : 0 ≤ n
  · rw [if_pos h]
    congr 1
    rw [decide_eq_decide]
    omega
  · rw [if_neg h, decide_eq_false (by omega)]
theorem rGive_f (k : Nat) (l : List S40) (n : Int) (hl : Held l) (h1 : l.length ≤ 100000) (hk : 100002 < k) :
    thrumref21_Give.f k l n = if 0 ≤ n ∧ n < (l.length : Int) then some ((rd_T40 l n).f0, (rd_T40 l n).f1, l.eraseIdx n.toNat, 0) else some (0, [], l, 1) := by
  simp only [thrumref21_Give.f]
  rw [rCopy_f k l hl (by omega) (by omega), bindS, rIs_f, bindS]
  by_cases h : 0 ≤ n ∧ n < (l.length : Int)
  · rw [if_pos (decide_eq_true h), if_pos h.1, if_pos h.2, if_pos (by omega), if_pos h]
  · rw [if_neg (by simpa using h), if_neg h]
theorem rDrop_f (k : Nat) (l : List S40) (n : Int) (hl : Held l) (h1 : l.length ≤ 100000) (hk : 100002 < k) :
    thrumref21_Drop.f k l n = if 0 ≤ n ∧ n < (l.length : Int) then some (l.eraseIdx n.toNat, 0) else some (l, 1) := by
  simp only [thrumref21_Drop.f]
  rw [rGive_f k l n hl h1 hk]
  by_cases h : 0 ≤ n ∧ n < (l.length : Int)
  · rw [if_pos h, bindS, if_pos h]
  · rw [if_neg h, bindS, if_neg h]
theorem take_drop_one (l : List S40) (n : Nat) (h : n < l.length) : (l.take (n + 1)).drop n = [rd_T40 l (n : Int)] := by
  rw [rdT_nat l n h, List.drop_take, show n + 1 - n = 1 by omega, List.drop_eq_getElem_cons h]
  rfl
theorem rTwice_f (k : Nat) (l : List S40) (a : Int) (hl : Held l) (h1 : l.length ≤ 100000) (hk : 100004 < k) :
    thrumref21_Twice.f k l a = if 0 ≤ a ∧ a < (l.length : Int) then (if (l.length : Int) ≥ 512 then some (l, 3) else some (l ++ [rd_T40 l a], 0)) else some (l, 1) := by
  simp only [thrumref21_Twice.f]
  rw [rCopy_f k l hl (by omega) (by omega), bindS, rIs_f, bindS]
  by_cases h : 0 ≤ a ∧ a < (l.length : Int)
  · rw [if_pos (decide_eq_true h), if_pos h]
    by_cases h2 : (l.length : Int) ≥ 512
    · rw [if_pos h2, if_pos h2]
    · rw [if_neg h2, if_neg h2]
      obtain ⟨n, rfl⟩ := Int.eq_ofNat_of_zero_le h.1
      have hn : n < l.length := by omega
      have hx : Held [rd_T40 l (n : Int)] := by
        intro y hy
        rw [List.mem_singleton.1 hy, rdT_nat l n hn]
        exact hl _ (List.getElem_mem _)
      rw [if_pos h.1, next_at n (by omega), if_pos (by omega), if_pos (by omega), Int.toNat_natCast, Int.toNat_natCast, take_drop_one l n hn, rCopy_f k _ hx (by simp) (by simp; omega), bindS, if_pos (by simp only [List.length_cons, List.length_nil]; omega)]
  · rw [if_neg (by simpa using h), if_neg h]
theorem rSwap_f (k : Nat) (l : List S40) (a b : Int) (hl : Held l) (h1 : l.length ≤ 100000) (hk : 100004 < k) :
    thrumref21_Swap.f k l a b = if (0 ≤ a ∧ a < (l.length : Int)) ∧ (0 ≤ b ∧ b < (l.length : Int)) then some (swapS l a.toNat b.toNat, 0) else some (l, 1) := by
  simp only [thrumref21_Swap.f]
  rw [rCopy_f k l hl (by omega) (by omega), bindS, rIs_f, bindS]
  by_cases h : 0 ≤ a ∧ a < (l.length : Int)
  · rw [if_pos (decide_eq_true h), rIs_f, bindS]
    by_cases h2 : 0 ≤ b ∧ b < (l.length : Int)
    · rw [if_pos (decide_eq_true h2), if_pos h.1, if_pos h.2, if_pos h2.1, if_pos h2.2, if_pos ⟨h, h2⟩]
      unfold swapS
      rw [Int.toNat_of_nonneg h.1, Int.toNat_of_nonneg h2.1]
    · rw [if_neg (by simpa using h2), if_neg (fun e => h2 e.2)]
  · rw [if_neg (by simpa using h), if_neg (fun e => h e.1)]
theorem rTurn_f (b : List Int) (bit : Int) (hb : b.length ≤ reachBytes) (h1 : bit < 9223372036854775808) :
    thrumref04_Turn.f b bit = if 0 ≤ bit ∧ bit / 8 < (b.length : Int) then some (turnS b bit.toNat, 0) else some ([], 1) := by
  have hr := reachBytes_lt
  simp only [thrumref04_Turn.f]
  by_cases h0 : bit < 0
  · rw [if_pos h0, if_neg (by omega)]
  · rw [if_neg h0]
    obtain ⟨n, rfl⟩ := Int.eq_ofNat_of_zero_le (show 0 ≤ bit by omega)
    have hd : wrap64 (Int.tdiv (n : Int) 8) = ((n / 8 : Nat) : Int) := by
      rw [Int.tdiv_eq_ediv_of_nonneg (by omega), wrap_same (by omega) (by omega)]
      omega
    have hm : Int.tmod (n : Int) 8 = ((n % 8 : Nat) : Int) := by
      rw [Int.tmod_eq_emod_of_nonneg (by omega)]
      omega
    rw [hd, hm]
    by_cases h2 : ((n / 8 : Nat) : Int) ≥ (b.length : Int)
    · rw [if_pos h2, if_neg (by omega)]
    · rw [if_neg h2, if_pos (by simp only [List.length_nil]; omega), List.nil_append, bindS, if_pos (by omega), if_pos (by omega), if_pos (by omega), Int.toNat_natCast, if_pos ⟨by omega, by omega⟩, Int.toNat_natCast]
      rfl
theorem rSpoil_f (k : Nat) (l : List S40) (a bit : Int) (hl : Held l) (h1 : l.length ≤ 100000) (hb : bit < 9223372036854775808) (hk : 100004 < k) :
    thrumref21_Spoil.f k l a bit = if 0 ≤ a ∧ a < (l.length : Int) then (if 0 ≤ bit ∧ bit / 8 < ((rd_T40 l a).f1.length : Int) then some (l.set a.toNat ⟨(rd_T40 l a).f0, turnS (rd_T40 l a).f1 bit.toNat⟩, 0) else some (l, 1)) else some (l, 1) := by
  simp only [thrumref21_Spoil.f]
  rw [rCopy_f k l hl (by omega) (by omega), bindS, rIs_f, bindS]
  by_cases h : 0 ≤ a ∧ a < (l.length : Int)
  · rw [if_pos (decide_eq_true h), if_pos h.1, if_pos h.2, if_pos h]
    obtain ⟨n, rfl⟩ := Int.eq_ofNat_of_zero_le h.1
    have hm : (rd_T40 l (n : Int)).f1.length ≤ reachBytes := by
      rw [rdT_nat l n (by omega)]
      exact hl _ (List.getElem_mem _)
    rw [rTurn_f _ bit hm hb]
    by_cases h2 : 0 ≤ bit ∧ bit / 8 < ((rd_T40 l (n : Int)).f1.length : Int)
    · rw [if_pos h2, bindS, if_pos h2]
      simp only
      rw [if_pos trivial, if_pos h.2]
    · rw [if_neg h2, bindS, if_neg h2]
      simp only
      rw [if_neg (by decide)]
  · rw [if_neg (by simpa using h), if_neg h]
theorem rFor_loop (l : List S40) (who : Int) (hn : l.length ≤ 1000000) (d : Nat) : ∀ (i F c : Nat), i + d = l.length → c ≤ i → thrumref21_For.l0 (F + d + 1) who (c : Int) l (l.length : Int) (i : Int) = some ((c + manyS (l.drop i) who : Nat) : Int) := by
  induction d with
  | zero =>
    intro i F c hi hc
    rw [thrumref21_For.l0, if_neg (by omega), List.drop_of_length_le (by omega)]
    rfl
  | succ d ih =>
    intro i F c hi hc
    have hil : i < l.length := by omega
    rw [show F + (d + 1) + 1 = (F + d + 1) + 1 by omega, thrumref21_For.l0, if_pos (by omega), if_pos (by omega), if_pos (by omega), next_at i (by omega), rdT_nat l i hil, List.drop_eq_getElem_cons hil]
    have hm : manyS (l[i] :: l.drop (i + 1)) who = manyS (l.drop (i + 1)) who + (if l[i].f0 = who then 1 else 0) := by
      unfold manyS
      rw [List.countP_cons]
      simp
    rw [hm]
    by_cases h : l[i].f0 = who
    · rw [if_pos h, next_at c (by omega), ih (i + 1) F (c + 1) (by omega) (by omega), if_pos h]
      congr 2
      omega
    · rw [if_neg h, ih (i + 1) F c (by omega) (by omega), if_neg h]
      congr 2
theorem rFor_f (k : Nat) (l : List S40) (who : Int) (hn : l.length ≤ 1000000) (hk : l.length < k) : thrumref21_For.f k l who = some (manyS l who : Int) := by
  have := rFor_loop l who hn l.length 0 (k - l.length - 1) 0 (by omega) (by omega)
  rw [show k - l.length - 1 + l.length + 1 = k by omega, List.drop_zero, Nat.zero_add] at this
  exact this

/-! ### Check -/
def badS (n : Int) (l : List S40) : Bool := l.any fun x => decide (x.f0 < 0 ∨ x.f0 ≥ n)
def longS (l : List S40) : Bool := l.any fun x => decide ((x.f1.length : Int) > 65536)
theorem badS_cons (n : Int) (x : S40) (l : List S40) : badS n (x :: l) = (decide (x.f0 < 0 ∨ x.f0 ≥ n) || badS n l) := rfl
theorem longS_cons (x : S40) (l : List S40) : longS (x :: l) = (decide ((x.f1.length : Int) > 65536) || longS l) := rfl
def checkS (n : Int) (l : List S40) : Int := if n < 1 ∨ n > 64 then 1 else if badS n l = true then 1 else if longS l = true then 3 else if (l.length : Int) > 512 then 3 else 0
theorem Check_loop (n : Int) (l : List S40) (hn : l.length ≤ 1000000) (d : Nat) : ∀ (i F : Nat) (e : Int), i + d = l.length → net_Check.l0 (F + 2 * d + 1) n e l (l.length : Int) (i : Int) = some (if badS n (l.drop i) = true then 1 else if longS (l.drop i) = true then 3 else e) := by
  induction d with
  | zero =>
    intro i F e hi
    rw [net_Check.l0, if_neg (by omega), List.drop_of_length_le (by omega)]
    rfl
  | succ d ih =>
    intro i F e hi
    have hil : i < l.length := by omega
    rw [show F + 2 * (d + 1) + 1 = ((F + 2 * d + 1) + 1) + 1 by omega, net_Check.l0, if_pos (by omega), if_pos (by omega), if_pos (by omega), rdT_nat l i hil, List.drop_eq_getElem_cons hil, badS_cons, longS_cons]
    have hj : ∀ b : Bool, net_Check.j3 ((F + 2 * d + 1) + 1) n e l (l.length : Int) (i : Int) b (l[i].f0) (l[i].f1) = if b = true then some 1 else some (if badS n (l.drop (i + 1)) = true then 1 else if longS (l.drop (i + 1)) = true then 3 else (if (l[i].f1.length : Int) > 65536 then 3 else e)) := by
      intro b
      rw [net_Check.j3, next_at i (by omega)]
      by_cases h : (l[i].f1.length : Int) > 65536
      · rw [if_pos h, if_pos h, ih (i + 1) F 3 (by omega)]
      · rw [if_neg h, if_neg h, ih (i + 1) F e (by omega)]
    rw [hj, hj]
    by_cases h1 : l[i].f0 < 0
    · rw [if_pos h1, if_pos rfl, decide_eq_true (.inl h1), Bool.true_or, if_pos rfl]
    · rw [if_neg h1]
      by_cases h2 : l[i].f0 ≥ n
      · rw [decide_eq_true h2, if_pos rfl, decide_eq_true (.inr h2), Bool.true_or, if_pos rfl]
      · rw [decide_eq_false h2, if_neg (by decide), decide_eq_false (fun h => h.elim h1 h2), Bool.false_or]
        by_cases h3 : (l[i].f1.length : Int) > 65536
        · rw [if_pos h3, decide_eq_true h3, Bool.true_or, if_pos rfl]
          congr 2
          split <;> rfl
        · rw [if_neg h3, decide_eq_false h3, Bool.false_or]
theorem Check_f (k : Nat) (n : Int) (l : List S40) (hn : l.length ≤ 1000000) (hk : 2 * l.length + 3 < k) : net_Check.f k n l = some (checkS n l) := by
  obtain ⟨k, rfl⟩ : ∃ j, k = j + 2 := ⟨k - 2, by omega⟩
  have hj : ∀ e : Int, net_Check.j0 (k + 2) n l e = if n < 1 ∨ n > 64 then some 1 else some (if badS n l = true then 1 else if longS l = true then 3 else e) := by
    intro e
    have hl := Check_loop n l hn l.length 0 (k - 2 * l.length - 1) e (by omega)
    rw [show k - 2 * l.length - 1 + 2 * l.length + 1 = k by omega, List.drop_zero] at hl
    rw [net_Check.j0, net_Check.j1, net_Check.j1]
    by_cases h1 : n < 1
    · rw [if_pos h1, if_pos rfl, if_pos (.inl h1)]
    · rw [if_neg h1]
      by_cases h2 : n > 64
      · rw [decide_eq_true h2, if_pos rfl, if_pos (.inr h2)]
      · rw [decide_eq_false h2, if_neg (by decide), if_neg (fun h => h.elim h1 h2)]
        exact hl
  simp only [net_Check.f]
  rw [hj, hj]
  unfold checkS
  by_cases h1 : n < 1 ∨ n > 64
  · rw [if_pos h1, if_pos h1, if_pos h1]
    split <;> rfl
  · rw [if_neg h1, if_neg h1, if_neg h1]
    by_cases h2 : (l.length : Int) > 512
    · rw [if_pos h2, if_pos h2]
    · rw [if_neg h2, if_neg h2]
theorem rCheck_loop1 (l : List S40) (hn : l.length ≤ 1000000) (d : Nat) : ∀ (i F : Nat), i + d = l.length → thrumref21_Check.l1 (F + d + 1) l l (l.length : Int) (i : Int) = some (if longS (l.drop i) = true then 3 else if (l.length : Int) > 512 then 3 else 0) := by
  induction d with
  | zero =>
    intro i F hi
    rw [thrumref21_Check.l1, if_neg (by omega), List.drop_of_length_le (by omega)]
    have : longS ([] : List S40) = false := rfl
    rw [this]
    by_cases h : (l.length : Int) > 512
    · rw [if_pos h, if_pos h]
      rfl
    · rw [if_neg h, if_neg h]
      rfl
  | succ d ih =>
    intro i F hi
    have hil : i < l.length := by omega
    rw [show F + (d + 1) + 1 = (F + d + 1) + 1 by omega, thrumref21_Check.l1, if_pos (by omega), if_pos (by omega), if_pos (by omega), rdT_nat l i hil, List.drop_eq_getElem_cons hil, longS_cons, next_at i (by omega)]
    by_cases h3 : (l[i].f1.length : Int) > 65536
    · rw [if_pos h3, decide_eq_true h3, Bool.true_or, if_pos rfl]
    · rw [if_neg h3, decide_eq_false h3, Bool.false_or]
      exact ih (i + 1) F (by omega)
theorem rCheck_loop0 (n : Int) (l : List S40) (hn : l.length ≤ 1000000) (d : Nat) : ∀ (i F : Nat), i + d = l.length → thrumref21_Check.l0 (F + d + 1) n l l (l.length : Int) (i : Int) = if badS n (l.drop i) = true then some 1 else thrumref21_Check.l1 F l l (l.length : Int) 0 := by
  induction d with
  | zero =>
    intro i F hi
    rw [thrumref21_Check.l0, if_neg (by omega), List.drop_of_length_le (by omega)]
    have : badS n ([] : List S40) = false := rfl
    rw [this, if_neg (by decide)]
  | succ d ih =>
    intro i F hi
    have hil : i < l.length := by omega
    rw [show F + (d + 1) + 1 = (F + d + 1) + 1 by omega, thrumref21_Check.l0, if_pos (by omega), if_pos (by omega), if_pos (by omega), rdT_nat l i hil, List.drop_eq_getElem_cons hil, badS_cons, next_at i (by omega)]
    by_cases h1 : l[i].f0 < 0
    · rw [if_pos h1, decide_eq_true (.inl h1), Bool.true_or, if_pos rfl]
    · rw [if_neg h1]
      by_cases h2 : l[i].f0 ≥ n
      · rw [if_pos h2, decide_eq_true (.inr h2), Bool.true_or, if_pos rfl]
      · rw [if_neg h2, decide_eq_false (fun h => h.elim h1 h2), Bool.false_or]
        exact ih (i + 1) F (by omega)
theorem rCheck_f (k : Nat) (n : Int) (l : List S40) (hn : l.length ≤ 1000000) (hk : 2 * l.length + 3 < k) : thrumref21_Check.f k n l = some (checkS n l) := by
  obtain ⟨k, rfl⟩ : ∃ j, k = j + 1 := ⟨k - 1, by omega⟩
  have hl1 := rCheck_loop1 l hn l.length 0 (k - l.length - 1 - l.length - 1) (by omega)
  rw [show k - l.length - 1 - l.length - 1 + l.length + 1 = k - l.length - 1 by omega, List.drop_zero] at hl1
  have hl0 := rCheck_loop0 n l hn l.length 0 (k - l.length - 1) (by omega)
  rw [show k - l.length - 1 + l.length + 1 = k by omega, List.drop_zero] at hl0
  replace hl1 : thrumref21_Check.l1 (k - l.length - 1) l l (l.length : Int) 0 = _ := hl1
  replace hl0 : thrumref21_Check.l0 k n l l (l.length : Int) 0 = _ := hl0
  rw [hl1] at hl0
  have hj : ∀ b : Bool, thrumref21_Check.j0 (k + 1) n l b = if b = true then some 1 else (if badS n l = true then some 1 else some (if longS l = true then 3 else if (l.length : Int) > 512 then 3 else 0)) := by
    intro b
    rw [thrumref21_Check.j0, hl0]
  simp only [thrumref21_Check.f]
  rw [hj, hj]
  unfold checkS
  by_cases h1 : n < 1
  · rw [if_pos h1, if_pos rfl, if_pos (.inl h1)]
  · rw [if_neg h1]
    by_cases h2 : n > 64
    · rw [decide_eq_true h2, if_pos rfl, if_pos (.inr h2)]
    · have h3 : ¬ (n < 1 ∨ n > 64) := fun h => h.elim h1 h2
      rw [if_neg h3, decide_eq_false h2, if_neg (by decide)]
      by_cases h4 : badS n l = true
      · rw [if_pos h4, if_pos h4]
      · rw [if_neg h4, if_neg h4]

/-! ### Same -/
theorem Same_loop (k : Nat) : ∀ (a b : List S40) (n i : Int), api_Gram_69.l0 k b a n i = thrumref21_Same.l0 k a b n i := by
  induction k with
  | zero => intros; rfl
  | succ k ih =>
    intro a b n i
    rw [api_Gram_69.l0, thrumref21_Same.l0]
    simp only [ih]
theorem Same_eq (k : Nat) (a b : List S40) : net_Same.f k a b = thrumref21_Same.f k a b := by
  simp only [net_Same.f, api_Gram_69.f, thrumref21_Same.f, Same_loop]
  cases (if (a.length : Int) = (b.length : Int) then thrumref21_Same.l0 k a b (a.length : Int) 0 else some false) with
  | none => rfl
  | some x => exact bindS x _
theorem rSame_total_loop (a b : List S40) (hab : a.length = b.length) (hn : a.length ≤ 1000000) (d : Nat) : ∀ (i F : Nat), i + d = a.length → ∃ r, thrumref21_Same.l0 (F + d + 1) a b (a.length : Int) (i : Int) = some r := by
  induction d with
  | zero =>
    intro i F hi
    rw [thrumref21_Same.l0, if_neg (by omega)]
    exact ⟨_, rfl⟩
  | succ d ih =>
    intro i F hi
    obtain ⟨r1, h1⟩ : ∃ r1, thrumref21_One.f (rd_T40 a (i : Int)).f0 (rd_T40 a (i : Int)).f1 (rd_T40 b (i : Int)).f0 (rd_T40 b (i : Int)).f1 = some r1 := by
      simp only [thrumref21_One.f]
      split
      · simp only [thrumref03_Same.f, bindS]
        exact ⟨_, rfl⟩
      · exact ⟨_, rfl⟩
    rw [show F + (d + 1) + 1 = (F + d + 1) + 1 by omega, thrumref21_Same.l0, if_pos (by omega), if_pos (by omega), if_pos (by omega), if_pos (by omega), h1, bindS, next_at i (by omega)]
    by_cases h : r1 = true
    · rw [if_pos h]
      exact ih (i + 1) F (by omega)
    · rw [if_neg h]
      exact ⟨_, rfl⟩
theorem rSame_total (k : Nat) (a b : List S40) (hn : a.length ≤ 1000000) (hk : a.length < k) : ∃ r, thrumref21_Same.f k a b = some r := by
  simp only [thrumref21_Same.f]
  by_cases h : (a.length : Int) = (b.length : Int)
  · rw [if_pos h]
    have := rSame_total_loop a b (by omega) hn a.length 0 (k - a.length - 1) (by omega)
    rw [show k - a.length - 1 + a.length + 1 = k by omega] at this
    exact this
  · rw [if_neg h]
    exact ⟨_, rfl⟩
end Go.Proofs.Ytlppmamhbpcfcaa.NetEq
