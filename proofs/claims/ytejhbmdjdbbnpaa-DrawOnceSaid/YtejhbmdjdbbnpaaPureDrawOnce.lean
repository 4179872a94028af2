/- The plain side of DrawOnce: an order has each number once, what is picked are its first ones, drawn again it is the same; no condition beyond the row's own sizes. -/
import Derived.Test.YtejhbmdjdbbnpaaMDrawOncex3
import Derived.Test.YtejhbmdjdbbnpaaDraw
namespace Go.Proofs.Ytejhbmdjdbbnpaa.Pure
open Go.RowKit Go.Proofs.Ytejhbmdjdbbnpaa.MDrawOnce Go.Proofs.Ytejhbmdjdbbnpaa.DrawPlain Go.Proofs.YtejhbmdjdbbnpaaW.PrintWords Go.Proofs.YtejhbmdjdbbnpaaW.PrintLast
namespace Once
theorem with_eq (s n : Int) : draw_stir_with.f s n = some (withS s n) := by rw [draw_stir_with.f, withS]
theorem end_eq (s : Int) : draw_stir_end.f s = some (endS s) := by rw [draw_stir_end.f, endS]
theorem over_loop (l : List Int) (hn : l.length ≤ maxLen) (d : Nat) : ∀ (k i : Nat) (s : Int), i + d = l.length → d < k →
    draw_over.l0 k s l (l.length : Int) (i : Int) = some (overS s (l.drop i)) := by
  induction d with
  | zero =>
    intro k i s hi hk
    obtain ⟨k, rfl⟩ : ∃ m, k = m + 1 := ⟨k - 1, by omega⟩
    simp only [draw_over.l0]
    rw [if_neg (by omega), List.drop_of_length_le (by omega)]
    rfl
  | succ d ih =>
    intro k i s hi hk
    obtain ⟨k, rfl⟩ : ∃ m, k = m + 1 := ⟨k - 1, by omega⟩
    simp only [draw_over.l0]
    rw [if_pos (by omega), if_pos (by omega), if_pos (by omega), with_eq]
    simp only [bindS]
    rw [wrap_next (by omega) (show (i : Int) < (l.length : Int) by omega) hn]
    have := ih k (i + 1) (withS s (rd l i)) (by omega) (by omega)
    rw [show ((i : Int) + 1) = ((i + 1 : Nat) : Int) by omega, this, rd_drop l i (by omega)]
    rfl
theorem over_eq (k : Nat) (s : Int) (l : List Int) (hn : l.length ≤ maxLen) (hk : l.length < k) : draw_over.f k s l = some (overS s l) := by
  have := over_loop l hn l.length k 0 s (by omega) (by omega)
  simpa [draw_over.f] using this
theorem at_eq (k : Nat) (s : Int) (l : List Int) (hn : l.length ≤ maxLen) (hk : l.length < k) : draw_At.f k s l = some (endS (overS s l)) := by
  simp only [draw_At.f, over_eq k s l hn hk, end_eq, bindS]
theorem below_eq (k : Nat) (m s : Int) (l : List Int) (hn : l.length ≤ maxLen) (hk : l.length < k) :
    draw_Below.f k m s l = some (if m = 0 then (0, 1) else (Int.tmod (endS (overS s l)) m, 0)) := by
  simp only [draw_Below.f, at_eq k s l hn hk, bindS]
  split <;> rfl
theorem live_eq (k : Nat) (hk : 12 ≤ k) : thrumlaw08_live.f k = some true :=
  at_rounds thrumlaw08_live.mono hk (by decide +kernel)
theorem order_loop1 (n : Nat) (hn : n ≤ 4096) (i : Nat) : ∀ (k : Nat) (l : List Int) (s : Int), l.length = n → (i < n ∨ i = 0) → i < k →
    draw_Order.l1 k l s (i : Int) = some (shufS i l s, 0) := by
  induction i with
  | zero =>
    intro k l s hl hi hk
    obtain ⟨k, rfl⟩ : ∃ m, k = m + 1 := ⟨k - 1, by omega⟩
    simp only [draw_Order.l1]
    rw [if_neg (by omega)]
    rfl
  | succ i ih =>
    intro k l s hl hi hk
    obtain ⟨k, rfl⟩ : ∃ m, k = m + 1 := ⟨k - 1, by omega⟩
    have hi' : i + 1 < n := by omega
    have e1 : ¬ IntKind.u64.wrap (wrap64 (((i + 1 : Nat) : Int) + 1)) = 0 := by
      rw [step_wrap (i := i + 1) (by omega)]
      omega
    simp only [draw_Order.l1, with_eq, end_eq, bindS]
    rw [if_pos (show ((i + 1 : Nat) : Int) > 0 by clear e1; omega), if_neg e1]
    clear e1
    rw [show Int.tmod (endS (withS s ((i + 1 : Nat) : Int))) (IntKind.u64.wrap (wrap64 (((i + 1 : Nat) : Int) + 1))) = pickS s ((i + 1 : Nat) : Int) from rfl]
    simp only [shufS]
    obtain ⟨p0, p1⟩ := pickS_range s (i := i + 1) (by omega)
    generalize pickS s ((i + 1 : Nat) : Int) = p at *
    rw [if_pos p0, if_pos (by rw [hl]; omega), if_pos (by omega), if_pos (by omega)]
    rw [wrap_same (i := ((i + 1 : Nat) : Int) - 1) (by omega) (by omega), show ((i + 1 : Nat) : Int) - 1 = (i : Int) by omega]
    rw [ih k _ s (by simp [hl]) (by omega) (by omega), swapS]
theorem order_loop1_none (k : Nat) (l : List Int) (s : Int) (hk : 0 < k) : draw_Order.l1 k l s (-1) = some (l, 0) := by
  obtain ⟨k, rfl⟩ : ∃ m, k = m + 1 := ⟨k - 1, by omega⟩
  simp only [draw_Order.l1]
  rw [if_neg (by omega)]
theorem order_loop0 (n : Nat) (hn : n ≤ 4096) (s : Int) (a : List Int) (ha : a.length ≤ maxLen) (d : Nat) : ∀ (k i : Nat) (l : List Int), l.length = n → i + d = n → (∀ j : Nat, j < i → rd l (j : Int) = j) → n + a.length + d + 2 < k →
    draw_Order.l0 k (n : Int) s a l (n : Int) (i : Int) = some (orderS n (overS s a), 0) := by
  induction d with
  | zero =>
    intro k i l hl hi hf hk
    obtain ⟨k, rfl⟩ : ∃ m, k = m + 1 := ⟨k - 1, by omega⟩
    simp only [draw_Order.l0]
    rw [if_neg (by omega), over_eq k s a ha (by omega)]
    simp only [bindS]
    obtain rfl : l = iota n := rd_ext (by simp [iota_length, hl]) (fun j hj => by rw [hf j (by omega), rd_iota n j (by omega)])
    rw [wrap_same (by omega) (by omega)]
    rcases Nat.eq_zero_or_pos n with h | h
    · subst h
      exact order_loop1_none k _ _ (by omega)
    · rw [show (n : Int) - 1 = ((n - 1 : Nat) : Int) by omega]
      exact order_loop1 n hn (n - 1) k _ _ hl (by omega) (by omega)
  | succ d ih =>
    intro k i l hl hi hf hk
    obtain ⟨k, rfl⟩ : ∃ m, k = m + 1 := ⟨k - 1, by omega⟩
    simp only [draw_Order.l0]
    rw [if_pos (by omega), if_pos (by omega), if_pos (by omega), wrap_same (by omega) (by omega)]
    rw [show ((i : Int) + 1) = ((i + 1 : Nat) : Int) by omega]
    refine ih k (i + 1) _ (by simp [hl]) (by omega) (fun j hj => ?_) (by omega)
    rw [Int.toNat_natCast, rd_set _ _ _ _ (by omega)]
    split
    · omega
    · exact hf j (by omega)
theorem order_eq (k : Nat) (of s : Int) (a : List Int) (ha : a.length ≤ maxLen) (hk : 8196 + a.length < k) :
    draw_Order.f k of s a = some (if of < 0 then ([], 1) else if of > 4096 then ([], 3) else (orderS of.toNat (overS s a), 0)) := by
  simp only [draw_Order.f]
  split
  · rfl
  · split
    · rfl
    · obtain ⟨n, rfl⟩ := Int.eq_ofNat_of_zero_le (show 0 ≤ of by omega)
      rw [if_pos (by omega), if_pos (by omega)]
      simp only [bindS, List.length_replicate, Int.toNat_natCast]
      exact order_loop0 n (by omega) s a ha n k 0 _ (by simp) (by omega) (fun j hj => by omega) (by omega)
theorem pick_eq (k : Nat) (many of s : Int) (a : List Int) (ha : a.length ≤ maxLen) (hk : 8198 + a.length < k) :
    draw_Pick.f k many of s a = some (if many < 0 ∨ many > of then ([], 1) else if of > 4096 then ([], 3) else ((orderS of.toNat (overS s a)).take many.toNat, 0)) := by
  obtain ⟨k, rfl⟩ : ∃ m, k = m + 1 := ⟨k - 1, by omega⟩
  simp only [draw_Pick.f, draw_Pick.j0]
  by_cases h1 : many < 0
  · simp [h1]
  · by_cases h2 : many > of
    · simp [h1, h2]
    · rw [if_neg h1, if_neg (by simpa using h2), if_neg (by omega), order_eq k of s a ha (by omega)]
      simp only [bindS]
      rw [if_neg (by omega : ¬ of < 0)]
      by_cases h3 : of > 4096
      · simp [h3]
      · rw [if_neg h3]
        simp only [if_true]
        rw [if_pos (by omega), if_pos (by rw [orderS_length]; omega)]
        simp [h3]
theorem equal_loop (l m : List Int) (hm : l.length = m.length) (hn : l.length ≤ maxLen) (d : Nat) : ∀ (k i : Nat), i + d = l.length → d < k →
    thrumref06_Equal.l0 k l m (l.length : Int) (i : Int) = some (decide (l.drop i = m.drop i)) := by
  induction d with
  | zero =>
    intro k i hi hk
    obtain ⟨k, rfl⟩ : ∃ m, k = m + 1 := ⟨k - 1, by omega⟩
    simp only [thrumref06_Equal.l0]
    rw [if_neg (by omega), List.drop_of_length_le (by omega), List.drop_of_length_le (by omega)]
    rfl
  | succ d ih =>
    intro k i hi hk
    obtain ⟨k, rfl⟩ : ∃ m, k = m + 1 := ⟨k - 1, by omega⟩
    simp only [thrumref06_Equal.l0]
    rw [if_pos (by omega), if_pos (by omega), if_pos (by omega), if_pos (by omega)]
    rw [rd_drop l i (by omega), rd_drop m i (by omega)]
    rw [wrap_next (by omega) (show (i : Int) < (l.length : Int) by omega) hn, show ((i : Int) + 1) = ((i + 1 : Nat) : Int) by omega, ih k (i + 1) (by omega) (by omega)]
    split <;> simp_all
theorem equal_eq (k : Nat) (l m : List Int) (hn : l.length ≤ maxLen) (hk : l.length < k) : thrumref06_Equal.f k l m = some (decide (l = m)) := by
  simp only [thrumref06_Equal.f]
  by_cases h : l.length = m.length
  · rw [if_pos (by omega)]
    have := equal_loop l m h hn l.length k 0 (by omega) (by omega)
    simpa using this
  · rw [if_neg (by omega), decide_eq_false (fun e => h (by rw [e]))]
theorem j2_ok (k : Nat) (a0 a2 : Int) (n : Nat) (h1 : n ≤ 1000) (l3 : List Int) (hn : l3.length ≤ maxLen) (hk : 8300 + l3.length < k) :
    thrumlaw08_DrawOnce.j2 k a0 n a2 l3 true (orderS n (overS a2 l3)) false = some true := by
  obtain ⟨k, rfl⟩ : ∃ m, k = m + 1 := ⟨k - 1, by omega⟩
  simp only [thrumlaw08_DrawOnce.j2]
  rw [if_neg (by simp), pick_eq _ a0 n a2 l3 hn (by omega)]
  simp only [bindS, if_true]
  by_cases c1 : a0 < 0
  · simp [c1]
  · by_cases c2 : a0 > n
    · simp [c1, c2]
    · simp only [if_neg (by omega : ¬ (a0 < 0 ∨ a0 > (n : Int))), if_neg (by omega : ¬ (n : Int) > 4096), if_neg c1, if_neg c2]
      simp only [if_true, Int.toNat_natCast]
      rw [if_pos (by omega), if_pos (by rw [orderS_length]; omega)]
      rw [equal_eq _ _ _ (by simp only [List.length_take, orderS_length, maxLen]; omega) (by simp only [List.length_take, orderS_length]; omega)]
      simp
theorem rdOf_set (l : List Bool) (a : Nat) (b : Int) (h0 : 0 ≤ b) (ha : a < l.length) : rdOf false (l.set a true) b = if (a : Int) = b then true else rdOf false l b := by
  simp only [rdOf, List.getD_eq_getElem?_getD, List.getElem?_set, ha, if_true]
  split <;> split <;> first | rfl | omega
theorem loop_ok (a0 a2 : Int) (n : Nat) (h1 : n ≤ 1000) (l3 : List Int) (hn : l3.length ≤ maxLen) (d : Nat) : ∀ (k i : Nat) (met : List Bool), i + d = n → met.length = n →
    (∀ x : Int, 0 ≤ x → rdOf false met x = true → ∃ j : Nat, j < i ∧ rd (orderS n (overS a2 l3)) (j : Int) = x) → 8400 + l3.length + d < k →
    thrumlaw08_DrawOnce.l0 k a0 n a2 l3 true (orderS n (overS a2 l3)) met (orderS n (overS a2 l3)) (n : Int) (i : Int) = some true := by
  have hg := good_order (n := n) (by omega) (overS a2 l3)
  generalize hO : orderS n (overS a2 l3) = O at *
  induction d with
  | zero =>
    intro k i met hi hm hmet hk
    obtain ⟨k, rfl⟩ : ∃ m, k = m + 1 := ⟨k - 1, by omega⟩
    simp only [thrumlaw08_DrawOnce.l0]
    rw [if_neg (by omega), order_eq _ n a2 l3 hn (by omega), if_neg (by omega), if_neg (by omega)]
    simp only [bindS, Int.toNat_natCast, if_true, hO]
    rw [if_pos (by rw [hg.len]), equal_eq _ _ _ (by rw [hg.len, maxLen]; omega) (by rw [hg.len]; omega)]
    simp only [bindS, decide_true, Bool.not_true]
    subst hO
    exact j2_ok k a0 a2 n h1 l3 hn (by omega)
  | succ d ih =>
    intro k i met hi hm hmet hk
    obtain ⟨k, rfl⟩ : ∃ m, k = m + 1 := ⟨k - 1, by omega⟩
    simp only [thrumlaw08_DrawOnce.l0]
    have g1 := hg.low i (by omega)
    have g2 := hg.high i (by omega)
    rw [if_pos (by omega), if_pos (by omega), if_pos (by rw [hg.len]; omega), if_neg (by omega), if_neg (by omega), if_pos g1, if_pos (by rw [hm]; omega)]
    rw [if_neg (fun e => by
      obtain ⟨j, hj, he⟩ := hmet _ g1 e
      have := hg.once j i (by omega) (by omega) he
      omega)]
    rw [wrap_same (by omega) (by omega), show ((i : Int) + 1) = ((i + 1 : Nat) : Int) by omega]
    refine ih k (i + 1) _ (by omega) (by simpa using hm) (fun x hx e => ?_) (by omega)
    rw [rdOf_set _ _ _ hx (by rw [hm]; omega)] at e
    split at e
    · exact ⟨i, by omega, by omega⟩
    · obtain ⟨j, hj, he⟩ := hmet x hx e
      exact ⟨j, by omega, he⟩
end Once
open Once in
theorem DrawOnce : thrumlaw08_DrawOnce.Pure := by
  intro a0 a1 a2 l3 h0 h1 _ hn _ _
  refine ⟨l3.length + 20000, ?_⟩
  have h0 := wf_i64 h0
  have h1 := wf_i64 h1
  simp only [thrumlaw08_DrawOnce.f, live_eq _ (by omega : 12 ≤ l3.length + 20000), thrumlaw08_few.f, bindS, if_true]
  split
  · have go : ¬ (a1 > 1000 ∧ a1 ≤ 4096) → thrumlaw08_DrawOnce.j0 (l3.length + 20000) a0 a1 a2 l3 true false = some true := by
      intro hno
      simp only [thrumlaw08_DrawOnce.j0]
      rw [if_neg (by simp), order_eq _ a1 a2 l3 hn (by omega)]
      by_cases c1 : a1 < 0
      · simp [c1]
      · by_cases c2 : a1 > 4096
        · simp [c1, c2]
        · rw [if_neg c1, if_neg c2]
          obtain ⟨n, rfl⟩ := Int.eq_ofNat_of_zero_le (show 0 ≤ a1 by omega)
          simp only [bindS, Int.toNat_natCast, if_true]
          rw [if_pos (by omega), if_pos (by omega), orderS_length]
          refine loop_ok a0 a2 n (by omega) l3 hn n _ 0 _ (by omega) (by simp) (fun x hx e => ?_) (by omega)
          simp only [rdOf, List.getD_eq_getElem?_getD, List.getElem?_replicate] at e
          split at e <;> simp at e
    by_cases c1 : a1 > 1000
    · rw [if_pos c1]
      by_cases c2 : a1 ≤ 4096
      · simp [thrumlaw08_DrawOnce.j0, c2]
      · rw [decide_eq_false c2]
        exact go (by omega)
    · rw [if_neg c1]
      exact go (by omega)
  · simp [thrumlaw08_DrawOnce.j0]
end Go.Proofs.Ytejhbmdjdbbnpaa.Pure
