/- Rows of bools that came in, as the walks read them; conditions as typed. -/
import Derived.Test.YtlppmamhbpcfcaaPlain
import Derived.Deep.Grids
namespace Go.Proofs.Ytlppmamhbpcfcaa.Plain
open Go.RowKit Go.Proofs.YtlppmamhbpcfcaaW.PrintWords
def IsBools (w : World) (a : Option Addr) (len cap : Nat) (zs : List Bool) : Prop :=
  (a = none ∧ len = 0 ∧ cap = 0 ∧ zs = []) ∨
  ∃ x, a = some x ∧ len ≤ cap ∧ cap ≤ maxLen ∧ zs.length = cap ∧ (∀ i, i < zs.length → w.cell? (x.add i) = some (.bool (zs.getD i false)))
theorem bools_of {w : World} {a : Option Addr} {len cap : Nat} {zs : List Bool} (h : IsBools w a len cap zs) :
    ∃ l : List Bool, len = l.length ∧ Kd.C Kd.bool w a l.length l ∧ l.length ≤ cap ∧ l.length ≤ maxLen := by
  rcases h with ⟨rfl, rfl, rfl, rfl⟩ | ⟨x, rfl, hl, hm, hz, hc⟩
  · exact ⟨[], rfl, Kd.C_of_reads (d := false) ⟨rfl, by simp, fun h => absurd h (by simp)⟩, by simp, by simp⟩
  · refine ⟨zs.take len, by simp; omega, Kd.C_of_reads (d := false) ⟨rfl, ?_, fun h => ⟨x, rfl, fun i hi => ?_⟩⟩, by simp; omega, by simp; omega⟩
    · unfold maxLen at hm
      simp
      omega
    · simp only [List.length_take] at hi
      rw [hc i (by omega)]
      simp only [List.getD_eq_getElem?_getD, List.getElem?_take]
      rw [if_pos (by omega)]
end Go.Proofs.Ytlppmamhbpcfcaa.Plain
