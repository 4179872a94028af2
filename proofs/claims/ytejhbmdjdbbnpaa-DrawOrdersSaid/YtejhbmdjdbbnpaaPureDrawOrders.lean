/- The plain side of DrawOrders: the program's orders, and what it picks of them, are the reference's; no condition beyond the row's own sizes. -/
import Derived.Test.YtejhbmdjdbbnpaaMDrawx3
import Derived.Test.YtejhbmdjdbbnpaaDrawInj
namespace Go.Proofs.Ytejhbmdjdbbnpaa.Pure
open Go.RowKit Go.Proofs.Ytejhbmdjdbbnpaa.MDraw Go.Proofs.Ytejhbmdjdbbnpaa.DrawPlain Go.Proofs.YtejhbmdjdbbnpaaW.PrintWords Go.Proofs.YtejhbmdjdbbnpaaW.PrintLast
namespace Orders
theorem with_eq (s n : Int) : draw_stir_with.f s n = some (withS s n) := by rw [draw_stir_with.f, withS]
theorem end_eq (s : Int) : draw_stir_end.f s = some (endS s) := by rw [draw_stir_end.f, endS]
theorem over_loop (l : List Int) (hn : l.length ≤ maxLen) (d : Nat) : ∀ (k i : Nat) (s : Int), i + d = l.length → d < k →
    draw_over.l0 k s l (l.length : Int) (i : Int) = some (overS s (l.drop i)) := by
  induction d with
  | zero =>
    intro k i s hi hk
    obtain ⟨k, rfl⟩ : ∃ m, k = m + 1 := ⟨k - 1, by omega⟩
    simp only [draw_over.l0]
    rw [if_neg (by omega), List.drop_of_length_le (by omega)]
    rfl
  | succ d ih =>
    intro k i s hi hk
    obtain ⟨k, rfl⟩ : ∃ m, k = m + 1 := ⟨k - 1, by omega⟩
    simp only [draw_over.l0]
    rw [if_pos (by omega), if_pos (by omega), if_pos (by omega), with_eq]
    simp only [bindS]
    rw [wrap_next (by omega) (show (i : Int) < (l.length : Int) by omega) hn]
    have := ih k (i + 1) (withS s (rd l i)) (by omega) (by omega)
    rw [show ((i : Int) + 1) = ((i + 1 : Nat) : Int) by omega, this, rd_drop l i (by omega)]
    rfl
theorem over_eq (k : Nat) (s : Int) (l : List Int) (hn : l.length ≤ maxLen) (hk : l.length < k) : draw_over.f k s l = some (overS s l) := by
  have := over_loop l hn l.length k 0 s (by omega) (by omega)
  simpa [draw_over.f] using this
theorem at_eq (k : Nat) (s : Int) (l : List Int) (hn : l.length ≤ maxLen) (hk : l.length < k) : draw_At.f k s l = some (endS (overS s l)) := by
  simp only [draw_At.f, over_eq k s l hn hk, end_eq, bindS]
theorem below_eq (k : Nat) (m s : Int) (l : List Int) (hn : l.length ≤ maxLen) (hk : l.length < k) :
    draw_Below.f k m s l = some (if m = 0 then (0, 1) else (Int.tmod (endS (overS s l)) m, 0)) := by
  simp only [draw_Below.f, at_eq k s l hn hk, bindS]
  split <;> rfl
theorem live_eq (k : Nat) (hk : 12 ≤ k) : thrumlaw08_live.f k = some true :=
  at_rounds thrumlaw08_live.mono hk (by decide +kernel)
theorem order_loop1 (n : Nat) (hn : n ≤ 4096) (i : Nat) : ∀ (k : Nat) (l : List Int) (s : Int), l.length = n → (i < n ∨ i = 0) → i < k →
    draw_Order.l1 k l s (i : Int) = some (shufS i l s, 0) := by
  induction i with
  | zero =>
    intro k l s hl hi hk
    obtain ⟨k, rfl⟩ : ∃ m, k = m + 1 := ⟨k - 1, by omega⟩
    simp only [draw_Order.l1]
    rw [if_neg (by omega)]
    rfl
  | succ i ih =>
    intro k l s hl hi hk
    obtain ⟨k, rfl⟩ : ∃ m, k = m + 1 := ⟨k - 1, by omega⟩
    have hi' : i + 1 < n := by omega
    have e1 : ¬ IntKind.u64.wrap (wrap64 (((i + 1 : Nat) : Int) + 1)) = 0 := by
      rw [step_wrap (i := i + 1) (by omega)]
      omega
    simp only [draw_Order.l1, with_eq, end_eq, bindS]
    rw [if_pos (show ((i + 1 : Nat) : Int) > 0 by clear e1; omega), if_neg e1]
    clear e1
    rw [show Int.tmod (endS (withS s ((i + 1 : Nat) : Int))) (IntKind.u64.wrap (wrap64 (((i + 1 : Nat) : Int) + 1))) = pickS s ((i + 1 : Nat) : Int) from rfl]
    simp only [shufS]
    obtain ⟨p0, p1⟩ := pickS_range s (i := i + 1) (by omega)
    generalize pickS s ((i + 1 : Nat) : Int) = p at *
    rw [if_pos p0, if_pos (by rw [hl]; omega), if_pos (by omega), if_pos (by omega)]
    rw [wrap_same (i := ((i + 1 : Nat) : Int) - 1) (by omega) (by omega), show ((i + 1 : Nat) : Int) - 1 = (i : Int) by omega]
    rw [ih k _ s (by simp [hl]) (by omega) (by omega), swapS]
theorem order_loop1_none (k : Nat) (l : List Int) (s : Int) (hk : 0 < k) : draw_Order.l1 k l s (-1) = some (l, 0) := by
  obtain ⟨k, rfl⟩ : ∃ m, k = m + 1 := ⟨k - 1, by omega⟩
  simp only [draw_Order.l1]
  rw [if_neg (by omega)]
theorem order_loop0 (n : Nat) (hn : n ≤ 4096) (s : Int) (a : List Int) (ha : a.length ≤ maxLen) (d : Nat) : ∀ (k i : Nat) (l : List Int), l.length = n → i + d = n → (∀ j : Nat, j < i → rd l (j : Int) = j) → n + a.length + d + 2 < k →
    draw_Order.l0 k (n : Int) s a l (n : Int) (i : Int) = some (orderS n (overS s a), 0) := by
  induction d with
  | zero =>
    intro k i l hl hi hf hk
    obtain ⟨k, rfl⟩ : ∃ m, k = m + 1 := ⟨k - 1, by omega⟩
    simp only [draw_Order.l0]
    rw [if_neg (by omega), over_eq k s a ha (by omega)]
    simp only [bindS]
    obtain rfl : l = iota n := rd_ext (by simp [iota_length, hl]) (fun j hj => by rw [hf j (by omega), rd_iota n j (by omega)])
    rw [wrap_same (by omega) (by omega)]
    rcases Nat.eq_zero_or_pos n with h | h
    · subst h
      exact order_loop1_none k _ _ (by omega)
    · rw [show (n : Int) - 1 = ((n - 1 : Nat) : Int) by omega]
      exact order_loop1 n hn (n - 1) k _ _ hl (by omega) (by omega)
  | succ d ih =>
    intro k i l hl hi hf hk
    obtain ⟨k, rfl⟩ : ∃ m, k = m + 1 := ⟨k - 1, by omega⟩
    simp only [draw_Order.l0]
    rw [if_pos (by omega), if_pos (by omega), if_pos (by omega), wrap_same (by omega) (by omega)]
    rw [show ((i : Int) + 1) = ((i + 1 : Nat) : Int) by omega]
    refine ih k (i + 1) _ (by simp [hl]) (by omega) (fun j hj => ?_) (by omega)
    rw [Int.toNat_natCast, rd_set _ _ _ _ (by omega)]
    split
    · omega
    · exact hf j (by omega)
theorem order_eq (k : Nat) (of s : Int) (a : List Int) (ha : a.length ≤ maxLen) (hk : 8196 + a.length < k) :
    draw_Order.f k of s a = some (if of < 0 then ([], 1) else if of > 4096 then ([], 3) else (orderS of.toNat (overS s a), 0)) := by
  simp only [draw_Order.f]
  split
  · rfl
  · split
    · rfl
    · obtain ⟨n, rfl⟩ := Int.eq_ofNat_of_zero_le (show 0 ≤ of by omega)
      rw [if_pos (by omega), if_pos (by omega)]
      simp only [bindS, List.length_replicate, Int.toNat_natCast]
      exact order_loop0 n (by omega) s a ha n k 0 _ (by simp) (by omega) (fun j hj => by omega) (by omega)
theorem pick_eq (k : Nat) (many of s : Int) (a : List Int) (ha : a.length ≤ maxLen) (hk : 8198 + a.length < k) :
    draw_Pick.f k many of s a = some (if many < 0 ∨ many > of then ([], 1) else if of > 4096 then ([], 3) else ((orderS of.toNat (overS s a)).take many.toNat, 0)) := by
  obtain ⟨k, rfl⟩ : ∃ m, k = m + 1 := ⟨k - 1, by omega⟩
  simp only [draw_Pick.f, draw_Pick.j0]
  by_cases h1 : many < 0
  · simp [h1]
  · by_cases h2 : many > of
    · simp [h1, h2]
    · rw [if_neg h1, if_neg (by simpa using h2), if_neg (by omega), order_eq k of s a ha (by omega)]
      simp only [bindS]
      rw [if_neg (by omega : ¬ of < 0)]
      by_cases h3 : of > 4096
      · simp [h3]
      · rw [if_neg h3]
        simp only [if_true]
        rw [if_pos (by omega), if_pos (by rw [orderS_length]; omega)]
        simp [h3]
theorem equal_loop (l m : List Int) (hm : l.length = m.length) (hn : l.length ≤ maxLen) (d : Nat) : ∀ (k i : Nat), i + d = l.length → d < k →
    thrumref06_Equal.l0 k l m (l.length : Int) (i : Int) = some (decide (l.drop i = m.drop i)) := by
  induction d with
  | zero =>
    intro k i hi hk
    obtain ⟨k, rfl⟩ : ∃ m, k = m + 1 := ⟨k - 1, by omega⟩
    simp only [thrumref06_Equal.l0]
    rw [if_neg (by omega), List.drop_of_length_le (by omega), List.drop_of_length_le (by omega)]
    rfl
  | succ d ih =>
    intro k i hi hk
    obtain ⟨k, rfl⟩ : ∃ m, k = m + 1 := ⟨k - 1, by omega⟩
    simp only [thrumref06_Equal.l0]
    rw [if_pos (by omega), if_pos (by omega), if_pos (by omega), if_pos (by omega)]
    rw [rd_drop l i (by omega), rd_drop m i (by omega)]
    rw [wrap_next (by omega) (show (i : Int) < (l.length : Int) by omega) hn, show ((i : Int) + 1) = ((i + 1 : Nat) : Int) by omega, ih k (i + 1) (by omega) (by omega)]
    split <;> simp_all
theorem equal_eq (k : Nat) (l m : List Int) (hn : l.length ≤ maxLen) (hk : l.length < k) : thrumref06_Equal.f k l m = some (decide (l = m)) := by
  simp only [thrumref06_Equal.f]
  by_cases h : l.length = m.length
  · rw [if_pos (by omega)]
    have := equal_loop l m h hn l.length k 0 (by omega) (by omega)
    simpa using this
  · rw [if_neg (by omega), decide_eq_false (fun e => h (by rw [e]))]
theorem refAt_loop (l : List Int) (hn : l.length ≤ maxLen) (d : Nat) : ∀ (k i : Nat) (s : Int), i + d = l.length → d < k →
    thrumref08_At.l0 k s l (l.length : Int) (i : Int) = some (endS (overS s (l.drop i))) := by
  induction d with
  | zero =>
    intro k i s hi hk
    obtain ⟨k, rfl⟩ : ∃ m, k = m + 1 := ⟨k - 1, by omega⟩
    simp only [thrumref08_At.l0]
    rw [if_neg (by omega), List.drop_of_length_le (by omega)]
    rfl
  | succ d ih =>
    intro k i s hi hk
    obtain ⟨k, rfl⟩ : ∃ m, k = m + 1 := ⟨k - 1, by omega⟩
    simp only [thrumref08_At.l0]
    rw [if_pos (by omega), if_pos (by omega), if_pos (by omega)]
    rw [wrap_next (by omega) (show (i : Int) < (l.length : Int) by omega) hn]
    have := ih k (i + 1) (withS s (rd l i)) (by omega) (by omega)
    rw [show ((i : Int) + 1) = ((i + 1 : Nat) : Int) by omega, rd_drop l i (by omega)]
    exact this
theorem refAt_eq (k : Nat) (s : Int) (l : List Int) (hn : l.length ≤ maxLen) (hk : l.length < k) : thrumref08_At.f k s l = some (endS (overS s l)) := by
  have := refAt_loop l hn l.length k 0 s (by omega) (by omega)
  simpa [thrumref08_At.f] using this
theorem refBelow_eq (k : Nat) (m s : Int) (l : List Int) (hn : l.length ≤ maxLen) (hk : l.length < k) :
    thrumref08_Below.f k m s l = some (if m = 0 then (0, 1) else (Int.tmod (endS (overS s l)) m, 0)) := by
  simp only [thrumref08_Below.f, refAt_eq k s l hn hk, bindS]
  split <;> rfl
theorem rorder_loop1 (n : Nat) (hn : n ≤ 4096) (s : Int) (a : List Int) (ha : a.length ≤ 200) (i : Nat) : ∀ (k : Nat) (l : List Int), l.length = n → (i < n ∨ i = 0) → i + 210 < k →
    thrumref08_Order.l1 k s a l (i : Int) = some (shufS i l (overS s a), 0) := by
  induction i with
  | zero =>
    intro k l hl hi hk
    obtain ⟨k, rfl⟩ : ∃ m, k = m + 1 := ⟨k - 1, by omega⟩
    simp only [thrumref08_Order.l1]
    rw [if_neg (by omega)]
    rfl
  | succ i ih =>
    intro k l hl hi hk
    obtain ⟨k, rfl⟩ : ∃ m, k = m + 1 := ⟨k - 1, by omega⟩
    have hi' : i + 1 < n := by omega
    have e1 : ¬ IntKind.u64.wrap (wrap64 (((i + 1 : Nat) : Int) + 1)) = 0 := by
      rw [step_wrap (i := i + 1) (by omega)]
      omega
    simp only [thrumref08_Order.l1, bindS, List.nil_append]
    rw [if_pos (show ((i + 1 : Nat) : Int) ≥ 1 by clear e1; omega), if_pos (by simp; clear e1; omega), if_pos (by clear e1; omega)]
    rw [refBelow_eq k _ s (a ++ [((i + 1 : Nat) : Int)]) (by clear e1; simp [maxLen]; omega) (by clear e1; simp; omega), if_neg e1, overS_snoc]
    clear e1
    simp only [bindS]
    rw [show Int.tmod (endS (withS (overS s a) ((i + 1 : Nat) : Int))) (IntKind.u64.wrap (wrap64 (((i + 1 : Nat) : Int) + 1))) = pickS (overS s a) ((i + 1 : Nat) : Int) from rfl]
    simp only [shufS]
    obtain ⟨p0, p1⟩ := pickS_range (overS s a) (i := i + 1) (by omega)
    generalize pickS (overS s a) ((i + 1 : Nat) : Int) = p at *
    rw [if_pos (by omega), if_pos (by rw [hl]; omega), if_pos p0, if_pos (by rw [hl]; omega)]
    rw [wrap_same (i := ((i + 1 : Nat) : Int) - 1) (by omega) (by omega), show ((i + 1 : Nat) : Int) - 1 = (i : Int) by omega]
    rw [ih k _ (by simp [hl]) (by omega) (by omega), swapS]
theorem rorder_loop1_none (k : Nat) (s : Int) (a l : List Int) (hk : 0 < k) : thrumref08_Order.l1 k s a l (-1) = some (l, 0) := by
  obtain ⟨k, rfl⟩ : ∃ m, k = m + 1 := ⟨k - 1, by omega⟩
  simp only [thrumref08_Order.l1]
  rw [if_neg (by omega)]
theorem rorder_loop0 (n : Nat) (hn : n ≤ 4096) (s : Int) (a : List Int) (ha : a.length ≤ 200) (d : Nat) : ∀ (k i : Nat) (l : List Int), l.length = n → i + d = n → (∀ j : Nat, j < i → rd l (j : Int) = j) → n + 212 + d + 2 < k →
    thrumref08_Order.l0 k (n : Int) s a l (n : Int) (i : Int) = some (orderS n (overS s a), 0) := by
  induction d with
  | zero =>
    intro k i l hl hi hf hk
    obtain ⟨k, rfl⟩ : ∃ m, k = m + 1 := ⟨k - 1, by omega⟩
    simp only [thrumref08_Order.l0]
    rw [if_neg (by omega)]
    obtain rfl : l = iota n := rd_ext (by simp [iota_length, hl]) (fun j hj => by rw [hf j (by omega), rd_iota n j (by omega)])
    rw [wrap_same (by omega) (by omega)]
    rcases Nat.eq_zero_or_pos n with h | h
    · subst h
      exact rorder_loop1_none k _ _ _ (by omega)
    · rw [show (n : Int) - 1 = ((n - 1 : Nat) : Int) by omega]
      exact rorder_loop1 n hn s a ha (n - 1) k _ hl (by omega) (by omega)
  | succ d ih =>
    intro k i l hl hi hf hk
    obtain ⟨k, rfl⟩ : ∃ m, k = m + 1 := ⟨k - 1, by omega⟩
    simp only [thrumref08_Order.l0]
    rw [if_pos (by omega), if_pos (by omega), if_pos (by omega), wrap_same (by omega) (by omega)]
    rw [show ((i : Int) + 1) = ((i + 1 : Nat) : Int) by omega]
    refine ih k (i + 1) _ (by simp [hl]) (by omega) (fun j hj => ?_) (by omega)
    rw [Int.toNat_natCast, rd_set _ _ _ _ (by omega)]
    split
    · omega
    · exact hf j (by omega)
theorem rorder_eq (k : Nat) (of s : Int) (a : List Int) (ha : a.length ≤ 200) (hk : 8500 < k) :
    thrumref08_Order.f k of s a = some (if of < 0 then ([], 1) else if of > 4096 then ([], 3) else (orderS of.toNat (overS s a), 0)) := by
  simp only [thrumref08_Order.f]
  split
  · rfl
  · split
    · rfl
    · obtain ⟨n, rfl⟩ := Int.eq_ofNat_of_zero_le (show 0 ≤ of by omega)
      rw [if_pos (by omega), if_pos (by omega)]
      simp only [bindS, List.length_replicate, Int.toNat_natCast]
      exact rorder_loop0 n (by omega) s a ha n k 0 _ (by simp) (by omega) (fun j hj => by omega) (by omega)
theorem rpick_eq (k : Nat) (many of s : Int) (a : List Int) (ha : a.length ≤ 200) (hk : 8502 < k) :
    thrumref08_Pick.f k many of s a = some (if many < 0 ∨ many > of then ([], 1) else if of > 4096 then ([], 3) else ((orderS of.toNat (overS s a)).take many.toNat, 0)) := by
  obtain ⟨k, rfl⟩ : ∃ m, k = m + 1 := ⟨k - 1, by omega⟩
  simp only [thrumref08_Pick.f, thrumref08_Pick.j0]
  by_cases h1 : many < 0
  · simp [h1]
  · by_cases h2 : many > of
    · simp [h1, h2]
    · rw [if_neg h1, if_neg (by simpa using h2), if_neg (by omega), rorder_eq k of s a ha (by omega)]
      simp only [bindS]
      rw [if_neg (by omega : ¬ of < 0)]
      by_cases h3 : of > 4096
      · simp [h3]
      · rw [if_neg h3]
        simp only [if_true]
        rw [if_pos (by omega), if_pos (by rw [orderS_length]; omega)]
        simp [h3]
end Orders
open Orders in
theorem DrawOrders : thrumlaw08_DrawOrders.Pure := by
  intro a0 a1 a2 l3 _ _ _ hn _ _
  refine ⟨l3.length + 20000, ?_⟩
  simp only [thrumlaw08_DrawOrders.f, live_eq _ (by omega : 12 ≤ l3.length + 20000), thrumlaw08_few.f, bindS, if_true]
  by_cases hf : (l3.length : Int) ≤ 200
  · rw [if_pos (by simpa using hf), if_pos (by simp; omega)]
    rw [order_eq _ a1 a2 l3 hn (by omega), rorder_eq _ a1 a2 l3 (by omega) (by omega), pick_eq _ a0 a1 a2 l3 hn (by omega), rpick_eq _ a0 a1 a2 l3 (by omega) (by omega)]
    have q1 : ∀ l : List Int, l.length ≤ 4096 → thrumref06_Equal.f (l3.length + 20000) l l = some true := fun l hl => by
      rw [equal_eq _ l l (by simp only [maxLen]; omega) (by omega)]
      simp
    have b1 : (if a1 < 0 then (([] : List Int), (1 : Int)) else if a1 > 4096 then ([], 3) else (orderS a1.toNat (overS a2 l3), 0)).1.length ≤ 4096 := by
      split
      · simp
      · split
        · simp
        · simp only [orderS_length]
          omega
    have b2 : (if a0 < 0 ∨ a0 > a1 then (([] : List Int), (1 : Int)) else if a1 > 4096 then ([], 3) else ((orderS a1.toNat (overS a2 l3)).take a0.toNat, 0)).1.length ≤ 4096 := by
      split
      · simp
      · split
        · simp
        · simp only [List.length_take, orderS_length]
          omega
    simp only [bindS, List.nil_append, if_true]
    rw [q1 _ b1]
    simp only [bindS, if_true]
    rw [q1 _ b2]
    simp only [bindS, if_true]
    rw [q1 l3 (by omega)]
    rfl
  · rw [if_neg (by simpa using hf)]
end Go.Proofs.Ytejhbmdjdbbnpaa.Pure
