/- The plain side of DrawApart: draws of two seeds, or for two last numbers, are two; no condition beyond the row's own sizes. -/
import Derived.Test.YtejhbmdjdbbnpaaMDrawx2
import Derived.Test.YtejhbmdjdbbnpaaDrawInj
namespace Go.Proofs.Ytejhbmdjdbbnpaa.Pure
open Go.RowKit Go.Proofs.Ytejhbmdjdbbnpaa.MDraw Go.Proofs.Ytejhbmdjdbbnpaa.DrawPlain Go.Proofs.YtejhbmdjdbbnpaaW.PrintWords Go.Proofs.YtejhbmdjdbbnpaaW.PrintLast
namespace Apart
theorem with_eq (s n : Int) : draw_stir_with.f s n = some (withS s n) := by rw [draw_stir_with.f, withS]
theorem end_eq (s : Int) : draw_stir_end.f s = some (endS s) := by rw [draw_stir_end.f, endS]
theorem over_loop (l : List Int) (hn : l.length ≤ maxLen) (d : Nat) : ∀ (k i : Nat) (s : Int), i + d = l.length → d < k →
    draw_over.l0 k s l (l.length : Int) (i : Int) = some (overS s (l.drop i)) := by
  induction d with
  | zero =>
    intro k i s hi hk
    obtain ⟨k, rfl⟩ : ∃ m, k = m + 1 := ⟨k - 1, by omega⟩
    simp only [draw_over.l0]
    rw [if_neg (by omega), List.drop_of_length_le (by omega)]
    rfl
  | succ d ih =>
    intro k i s hi hk
    obtain ⟨k, rfl⟩ : ∃ m, k = m + 1 := ⟨k - 1, by omega⟩
    simp only [draw_over.l0]
    rw [if_pos (by omega), if_pos (by omega), if_pos (by omega), with_eq]
    simp only [bindS]
    rw [wrap_next (by omega) (show (i : Int) < (l.length : Int) by omega) hn]
    have := ih k (i + 1) (withS s (rd l i)) (by omega) (by omega)
    rw [show ((i : Int) + 1) = ((i + 1 : Nat) : Int) by omega, this, rd_drop l i (by omega)]
    rfl
theorem over_eq (k : Nat) (s : Int) (l : List Int) (hn : l.length ≤ maxLen) (hk : l.length < k) : draw_over.f k s l = some (overS s l) := by
  have := over_loop l hn l.length k 0 s (by omega) (by omega)
  simpa [draw_over.f] using this
theorem at_eq (k : Nat) (s : Int) (l : List Int) (hn : l.length ≤ maxLen) (hk : l.length < k) : draw_At.f k s l = some (endS (overS s l)) := by
  simp only [draw_At.f, over_eq k s l hn hk, end_eq, bindS]
theorem below_eq (k : Nat) (m s : Int) (l : List Int) (hn : l.length ≤ maxLen) (hk : l.length < k) :
    draw_Below.f k m s l = some (if m = 0 then (0, 1) else (Int.tmod (endS (overS s l)) m, 0)) := by
  simp only [draw_Below.f, at_eq k s l hn hk, bindS]
  split <;> rfl
theorem live_eq (k : Nat) (hk : 12 ≤ k) : thrumlaw08_live.f k = some true :=
  at_rounds thrumlaw08_live.mono hk (by decide +kernel)
theorem j0_ok (k : Nat) (s : Int) (l : List Int) (i j : Int) (hs : 0 ≤ s ∧ s < 18446744073709551616) (hi : -9223372036854775808 ≤ i ∧ i < 9223372036854775808) (hj : -9223372036854775808 ≤ j ∧ j < 9223372036854775808) (hl : l.length ≤ 200) (hk : l.length + 3 < k) :
    thrumlaw08_DrawApart.j0 k s l i j true false = some true := by
  obtain ⟨k, rfl⟩ : ∃ m, k = m + 1 := ⟨k - 1, by omega⟩
  simp only [thrumlaw08_DrawApart.j0]
  rw [if_neg (by simp), if_pos (by simp; omega)]
  simp only [bindS, List.nil_append]
  have hlim : l.length < 17592186044416 := by omega
  simp only [if_pos hlim]
  rw [at_eq _ s (l ++ [i]) (by simp [maxLen]; omega) (by simp; omega), at_eq _ s (l ++ [j]) (by simp [maxLen]; omega) (by simp; omega)]
  simp only [bindS, if_true]
  by_cases e : i = j
  · subst e
    simp
  · have h : ¬ endS (overS s (l ++ [i])) = endS (overS s (l ++ [j])) := fun h => e (draw_lasts l hs.1 hs.2 hi.1 hi.2 hj.1 hj.2 h)
    rw [beq_eq_false_iff_ne.2 h, beq_eq_false_iff_ne.2 e]
    rfl
end Apart
open Apart in
theorem DrawApart : thrumlaw08_DrawApart.Pure := by
  intro a0 a1 l2 a3 a4 h0 h1 hn _ _ h3 h4
  refine ⟨l2.length + 12, ?_⟩
  have h0 := wf_u64 h0
  have h1 := wf_u64 h1
  have h3 := wf_i64 h3
  have h4 := wf_i64 h4
  simp only [thrumlaw08_DrawApart.f, live_eq _ (by omega : 12 ≤ l2.length + 12), thrumlaw08_few.f, bindS, if_true]
  by_cases hf : (l2.length : Int) ≤ 200
  · rw [if_pos (by simpa using hf)]
    by_cases e : a0 = a1
    · rw [if_pos e]
      exact j0_ok _ a0 l2 a3 a4 h0 h3 h4 (by omega) (by omega)
    · rw [if_neg e, at_eq _ a0 l2 hn (by omega), at_eq _ a1 l2 hn (by omega)]
      simp only [bindS]
      rw [beq_eq_false_iff_ne.2 (fun h => e (draw_seeds l2 h0.1 h0.2 h1.1 h1.2 h))]
      exact j0_ok _ a0 l2 a3 a4 h0 h3 h4 (by omega) (by omega)
  · rw [if_neg (by simpa using hf)]
end Go.Proofs.Ytejhbmdjdbbnpaa.Pure
