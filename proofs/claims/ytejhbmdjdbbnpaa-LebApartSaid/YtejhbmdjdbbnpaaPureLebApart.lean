/- The plain side of LebApart: no code is another one's beginning, a greater number has no fewer bytes, one byte less is too short; no condition beyond the row's own. -/
import Derived.Test.YtejhbmdjdbbnpaaLebEqB
namespace Go.Proofs.Ytejhbmdjdbbnpaa.Pure
open Go.RowKit Go.Proofs.Ytejhbmdjdbbnpaa.MLeb Go.Proofs.Ytejhbmdjdbbnpaa.LebEq Go.Proofs.Ytejhbmdjdbbnpaa.DrawPlain Go.Proofs.Ytejhbmdjdbbnpaa.LebPlain Go.Proofs.YtejhbmdjdbbnpaaW.PrintWords
namespace LebA
theorem short_ok (k : Nat) (hk : 40 ≤ k) (a : Int) (h0 : 0 ≤ a) (h1 : a < 18446744073709551616) : leb_Get.f k ((codeI a).take ((codeI a).length - 1)) 0 = some (0, 0, 5) := by
  obtain ⟨n, rfl⟩ := Int.eq_ofNat_of_zero_le h0
  rw [codeI, Int.toNat_natCast]
  have hp := codeS_pos n
  have ht := codeS_len_ten (n := n) (by omega)
  rw [get_f k _ 0 (Bytes.take (codeS_bytes _ n (Nat.le_refl _)) _) (by simp only [List.length_take]; omega) (by omega) hk]
  unfold getG
  rw [if_neg (by omega), show (0 : Int).toNat = 0 from rfl, List.drop_zero]
  have := get_short 0 (codeS n).length n 0 0 ((codeS n).length - 1) (Nat.le_refl _) (by omega) (by omega) (by decide) (by rw [show P7 0 = 1 from rfl]; omega) (fun h => absurd h (by omega))
  rw [show ((0 : Nat) : Int) = 0 from rfl] at this
  rw [this]
theorem j0_ok (K : Nat) (hK : 41 ≤ K) (a b : Int) (ha0 : 0 ≤ a) (ha1 : a < 18446744073709551616) (hb0 : 0 ≤ b) (hb1 : b < 18446744073709551616) :
    thrumlaw03_LebApart.j0 K a b true (codeI a) (codeI b) false = some true := by
  obtain ⟨k, rfl⟩ : ∃ m, K = m + 1 := ⟨K - 1, by omega⟩
  have la := codeI_len ha1
  have pa : 0 < (codeI a).length := codeS_pos _
  simp only [thrumlaw03_LebApart.j0]
  rw [if_neg (by simp), wrap_same (i := ((codeI a).length : Int) - 1) (by omega) (by omega), show (((codeI a).length : Int) - 1).toNat = (codeI a).length - 1 by omega, short_ok k (by omega) a ha0 ha1]
  have p1 : (0 : Int) ≤ ((codeI a).length : Int) - 1 := by omega
  have p2 : ((codeI a).length : Int) - 1 ≤ ((codeI a).length : Int) := by omega
  simp only [bindS, if_true, if_pos p1, if_pos p2, beq_self_eq_true]
  by_cases e : a = b
  · rw [if_pos e]
  · rw [if_neg e]
    by_cases hl : ((codeI a).length : Int) ≤ ((codeI b).length : Int)
    · rw [if_pos hl, if_pos (by omega), Int.toNat_natCast, same_f _ _ (codeI_bytes a) ((codeI_bytes b).take _)]
      simp only [bindS]
      have hne : ¬ codeI a = (codeI b).take (codeI a).length := fun h => e (by
        have := code_apart (a := a.toNat) (b := b.toNat) (by omega) (by omega) h
        omega)
      rw [decide_eq_false hne]
      rfl
    · rw [if_neg hl]
end LebA
open LebA in
theorem LebApart : thrumlaw03_LebApart.Pure := by
  intro a b ha hb
  obtain ⟨ha0, ha1⟩ := wf_u64 ha
  obtain ⟨hb0, hb1⟩ := wf_u64 hb
  refine ⟨60, ?_⟩
  have la := codeI_len ha1
  have lb := codeI_len hb1
  have pa : 0 < (codeI a).length := codeS_pos _
  have pb : 0 < (codeI b).length := codeS_pos _
  have wa : Words [a] := fun x hx => by
    obtain rfl := List.mem_singleton.1 hx
    exact ⟨ha0, ha1⟩
  have wb : Words [b] := fun x hx => by
    obtain rfl := List.mem_singleton.1 hx
    exact ⟨hb0, hb1⟩
  have ca : codesI [a] = codeI a := by simp [codesI]
  have cb : codesI [b] = codeI b := by simp [codesI]
  simp only [thrumlaw03_LebApart.f, live_eq 60 (by omega), bindS, if_true]
  rw [Put_f 60 [] [a] wa (by simp) (by simp) (by simp), Put_f 60 [] [b] wb (by simp) (by simp) (by simp)]
  simp only [bindS, List.nil_append, ca, cb]
  rw [if_neg (by omega), if_neg (by omega), if_neg (by omega), if_neg (by omega), size_f 60 (by omega) a ha0 ha1]
  simp only [bindS, bne_self_eq_false]
  by_cases h : a ≤ b
  · have := codeS_len_mono (codeI b).length a.toNat b.toNat (Nat.le_refl _) (by omega)
    rw [if_pos h, if_neg (by unfold codeI; omega)]
    exact j0_ok 60 (by omega) a b ha0 ha1 hb0 hb1
  · rw [if_neg h]
    exact j0_ok 60 (by omega) a b ha0 ha1 hb0 hb1
end Go.Proofs.Ytejhbmdjdbbnpaa.Pure
