/- The plain side of DrawChances: of no part there is no chance, of the whole it is sure, of more it is more likely; no condition beyond the row's own sizes. -/
import Derived.Test.YtejhbmdjdbbnpaaMDrawChancesx2
import Derived.Test.YtejhbmdjdbbnpaaDraw
namespace Go.Proofs.Ytejhbmdjdbbnpaa.Pure
open Go.RowKit Go.Proofs.Ytejhbmdjdbbnpaa.MDrawChances Go.Proofs.Ytejhbmdjdbbnpaa.DrawPlain Go.Proofs.YtejhbmdjdbbnpaaW.PrintWords Go.Proofs.YtejhbmdjdbbnpaaW.PrintLast
namespace Chances
theorem with_eq (s n : Int) : draw_stir_with.f s n = some (withS s n) := by rw [draw_stir_with.f, withS]
theorem end_eq (s : Int) : draw_stir_end.f s = some (endS s) := by rw [draw_stir_end.f, endS]
theorem over_loop (l : List Int) (hn : l.length ≤ maxLen) (d : Nat) : ∀ (k i : Nat) (s : Int), i + d = l.length → d < k →
    draw_over.l0 k s l (l.length : Int) (i : Int) = some (overS s (l.drop i)) := by
  induction d with
  | zero =>
    intro k i s hi hk
    obtain ⟨k, rfl⟩ : ∃ m, k = m + 1 := ⟨k - 1, by omega⟩
    simp only [draw_over.l0]
    rw [if_neg (by omega), List.drop_of_length_le (by omega)]
    rfl
  | succ d ih =>
    intro k i s hi hk
    obtain ⟨k, rfl⟩ : ∃ m, k = m + 1 := ⟨k - 1, by omega⟩
    simp only [draw_over.l0]
    rw [if_pos (by omega), if_pos (by omega), if_pos (by omega), with_eq]
    simp only [bindS]
    rw [wrap_next (by omega) (show (i : Int) < (l.length : Int) by omega) hn]
    have := ih k (i + 1) (withS s (rd l i)) (by omega) (by omega)
    rw [show ((i : Int) + 1) = ((i + 1 : Nat) : Int) by omega, this, rd_drop l i (by omega)]
    rfl
theorem over_eq (k : Nat) (s : Int) (l : List Int) (hn : l.length ≤ maxLen) (hk : l.length < k) : draw_over.f k s l = some (overS s l) := by
  have := over_loop l hn l.length k 0 s (by omega) (by omega)
  simpa [draw_over.f] using this
theorem at_eq (k : Nat) (s : Int) (l : List Int) (hn : l.length ≤ maxLen) (hk : l.length < k) : draw_At.f k s l = some (endS (overS s l)) := by
  simp only [draw_At.f, over_eq k s l hn hk, end_eq, bindS]
theorem below_eq (k : Nat) (m s : Int) (l : List Int) (hn : l.length ≤ maxLen) (hk : l.length < k) :
    draw_Below.f k m s l = some (if m = 0 then (0, 1) else (Int.tmod (endS (overS s l)) m, 0)) := by
  simp only [draw_Below.f, at_eq k s l hn hk, bindS]
  split <;> rfl
theorem live_eq (k : Nat) (hk : 12 ≤ k) : thrumlaw08_live.f k = some true :=
  at_rounds thrumlaw08_live.mono hk (by decide +kernel)
theorem chance_eq (k : Nat) (p m s : Int) (l : List Int) (hn : l.length ≤ maxLen) (hk : l.length < k) (hp : p ≤ m) (hm : m ≠ 0) :
    draw_Chance.f k p m s l = some (decide (Int.tmod (endS (overS s l)) m < p), 0) := by
  simp only [draw_Chance.f]
  rw [if_neg (by omega), below_eq k m s l hn hk]
  simp [hm]
theorem tmod_range (a : Int) {b : Int} (h0 : 0 ≤ a) (h : 0 < b) : 0 ≤ Int.tmod a b ∧ Int.tmod a b < b := ⟨Int.tmod_nonneg _ h0, Int.tmod_lt_of_pos _ h⟩
end Chances
open Chances in
theorem DrawChances : thrumlaw08_DrawChances.Pure := by
  intro a0 a1 a2 a3 l4 h0 h1 h2 h3 hn _ _
  refine ⟨l4.length + 12, ?_⟩
  have h0 := wf_u64 h0
  have h1 := wf_u64 h1
  have h2 := wf_u64 h2
  simp only [thrumlaw08_DrawChances.f, live_eq _ (by omega : 12 ≤ l4.length + 12), thrumlaw08_few.f, bindS, if_true]
  split
  · by_cases hz : a2 = 0
    · simp [thrumlaw08_DrawChances.j0, hz]
    · simp only [thrumlaw08_DrawChances.j0]
      have hk : l4.length < l4.length + 11 := by omega
      obtain ⟨p0, p1⟩ := tmod_range a0 h0.1 (show 0 < a2 by omega)
      generalize hp : Int.tmod a0 a2 = p at *
      rw [u64_same (n := a2 - p) (by omega) (by omega)]
      obtain ⟨m0, m1⟩ := tmod_range a1 h1.1 (show 0 < a2 - p by omega)
      generalize hm : Int.tmod a1 (a2 - p) = m at *
      rw [u64_same (n := p + m) (by omega) (by omega)]
      obtain ⟨x0, x1⟩ := tmod_range (endS (overS a3 l4)) (endS_pos _) (show 0 < a2 by omega)
      rw [if_neg (by simpa using hz), if_neg hz, if_neg (by omega)]
      rw [chance_eq _ 0 a2 a3 l4 hn hk (by omega) hz, chance_eq _ a2 a2 a3 l4 hn hk (by omega) hz, chance_eq _ p a2 a3 l4 hn hk (by omega) hz, chance_eq _ (p + m) a2 a3 l4 hn hk (by omega) hz, below_eq _ a2 a3 l4 hn hk]
      simp only [bindS, if_neg hz, if_true]
      generalize Int.tmod (endS (overS a3 l4)) a2 = x at *
      rw [if_neg (by simpa using x0), if_pos (by simpa using x1)]
      simp only [x1, if_true]
      by_cases hx : x < p
      · rw [if_pos (by simpa using hx), if_pos (by simp; omega)]
        simp
      · rw [if_neg (by simpa using hx)]
        simp
  · simp [thrumlaw08_DrawChances.j0]
end Go.Proofs.Ytejhbmdjdbbnpaa.Pure
