/- The plain side of DrawDraws: for every seed, numbers and bounds the program draws as the reference does; no condition beyond the row's own sizes. -/
import Derived.Test.YtejhbmdjdbbnpaaMDrawDrawsx2
namespace Go.Proofs.Ytejhbmdjdbbnpaa.Pure
open Go.RowKit Go.Proofs.Ytejhbmdjdbbnpaa.MDrawDraws Go.Proofs.YtejhbmdjdbbnpaaW.PrintWords Go.Proofs.YtejhbmdjdbbnpaaW.PrintLast

/-- One more number stirred in. -/
def withS (s n : Int) : Int := Go.bits .xor .u64 (IntKind.u64.wrap ((Go.bits .xor .u64 s (IntKind.u64.wrap n)) * 11400714819323198485)) ((IntKind.u64.wrap ((Go.bits .xor .u64 s (IntKind.u64.wrap n)) * 11400714819323198485)) / 536870912)
/-- The end of it. -/
def endS (s : Int) : Int := Go.bits .xor .u64 (IntKind.u64.wrap (s * 13787848793156543929)) ((IntKind.u64.wrap (s * 13787848793156543929)) / 4294967296)
/-- All numbers stirred in. -/
def overS (s : Int) (l : List Int) : Int := l.foldl withS s

theorem with_eq (s n : Int) : draw_stir_with.f s n = some (withS s n) := rfl
theorem end_eq (s : Int) : draw_stir_end.f s = some (endS s) := rfl

theorem wrap_next {i : Int} {n : Nat} (h0 : 0 ≤ i) (h : i < (n : Int)) (hn : n ≤ maxLen) : wrap64 (i + 1) = i + 1 := by
  unfold maxLen at hn
  unfold wrap64
  omega

theorem rd_drop (l : List Int) (i : Nat) (h : i < l.length) : l.drop i = rd l (i : Int) :: l.drop (i + 1) := by
  rw [List.drop_eq_getElem_cons h]
  congr 1
  simp [rd, List.getD_eq_getElem?_getD, List.getElem?_eq_getElem h]

theorem over_loop (l : List Int) (hn : l.length ≤ maxLen) (d : Nat) : ∀ (k i : Nat) (s : Int), i + d = l.length → d < k →
    draw_over.l0 k s l (l.length : Int) (i : Int) = some (overS s (l.drop i)) := by
  induction d with
  | zero =>
    intro k i s hi hk
    obtain ⟨k, rfl⟩ : ∃ m, k = m + 1 := ⟨k - 1, by omega⟩
    simp only [draw_over.l0]
    rw [if_neg (by omega), List.drop_of_length_le (by omega)]
    rfl
  | succ d ih =>
    intro k i s hi hk
    obtain ⟨k, rfl⟩ : ∃ m, k = m + 1 := ⟨k - 1, by omega⟩
    simp only [draw_over.l0]
    rw [if_pos (by omega), if_pos (by omega), if_pos (by omega), with_eq]
    simp only [Option.bind_some]
    rw [wrap_next (by omega) (show (i : Int) < (l.length : Int) by omega) hn]
    have := ih k (i + 1) (withS s (rd l i)) (by omega) (by omega)
    rw [show ((i : Int) + 1) = ((i + 1 : Nat) : Int) by omega, this, rd_drop l i (by omega)]
    rfl

theorem over_eq (k : Nat) (s : Int) (l : List Int) (hn : l.length ≤ maxLen) (hk : l.length < k) : draw_over.f k s l = some (overS s l) := by
  have := over_loop l hn l.length k 0 s (by omega) (by omega)
  simpa [draw_over.f] using this

theorem at_eq (k : Nat) (s : Int) (l : List Int) (hn : l.length ≤ maxLen) (hk : l.length < k) : draw_At.f k s l = some (endS (overS s l)) := by
  simp only [draw_At.f, over_eq k s l hn hk, end_eq, Option.bind_some]

theorem below_eq (k : Nat) (m s : Int) (l : List Int) (hn : l.length ≤ maxLen) (hk : l.length < k) :
    draw_Below.f k m s l = some (if m = 0 then (0, 1) else (Int.tmod (endS (overS s l)) m, 0)) := by
  simp only [draw_Below.f, at_eq k s l hn hk, Option.bind_some]
  split <;> rfl

theorem live_eq (k : Nat) (hk : 12 ≤ k) : thrumlaw08_live.f k = some true :=
  at_rounds thrumlaw08_live.mono hk (by decide +kernel)

theorem refAt_loop (l : List Int) (hn : l.length ≤ maxLen) (d : Nat) : ∀ (k i : Nat) (s : Int), i + d = l.length → d < k →
    thrumref08_At.l0 k s l (l.length : Int) (i : Int) = some (endS (overS s (l.drop i))) := by
  induction d with
  | zero =>
    intro k i s hi hk
    obtain ⟨k, rfl⟩ : ∃ m, k = m + 1 := ⟨k - 1, by omega⟩
    simp only [thrumref08_At.l0]
    rw [if_neg (by omega), List.drop_of_length_le (by omega)]
    rfl
  | succ d ih =>
    intro k i s hi hk
    obtain ⟨k, rfl⟩ : ∃ m, k = m + 1 := ⟨k - 1, by omega⟩
    simp only [thrumref08_At.l0]
    rw [if_pos (by omega), if_pos (by omega), if_pos (by omega)]
    rw [wrap_next (by omega) (show (i : Int) < (l.length : Int) by omega) hn]
    have := ih k (i + 1) (withS s (rd l i)) (by omega) (by omega)
    rw [show ((i : Int) + 1) = ((i + 1 : Nat) : Int) by omega, rd_drop l i (by omega)]
    exact this

theorem refAt_eq (k : Nat) (s : Int) (l : List Int) (hn : l.length ≤ maxLen) (hk : l.length < k) : thrumref08_At.f k s l = some (endS (overS s l)) := by
  have := refAt_loop l hn l.length k 0 s (by omega) (by omega)
  simpa [thrumref08_At.f] using this

theorem DrawDraws : thrumlaw08_DrawDraws.Pure := by
  intro a0 a1 a2 l3 _ _ _ hn _ _
  refine ⟨l3.length + 12, ?_⟩
  have hk : l3.length < l3.length + 12 := by omega
  simp only [thrumlaw08_DrawDraws.f, live_eq _ (by omega : 12 ≤ l3.length + 12), thrumlaw08_few.f, Option.bind_some, if_true]
  split
  · simp only [below_eq _ _ _ _ hn hk, at_eq _ _ _ hn hk, refAt_eq _ _ _ hn hk, thrumref08_Below.f, draw_Chance.f, thrumref08_Chance.f, Option.bind_some]
    by_cases h1 : a1 = 0
    · subst h1
      by_cases h2 : a2 > 0 <;> simp [h2]
    · by_cases h2 : a2 > a1 <;> simp [h1, h2]
  · rfl

end Go.Proofs.Ytejhbmdjdbbnpaa.Pure
