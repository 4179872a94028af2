/- The law NetDoes in plain words: whatever is done who what is underway, the program does what the document says; conditions: texts of bytes, no longer than memory allows. -/
import Derived.Test.YtlppmamhbpcfcaaPNLDoes
import Derived.Test.YtlppmamhbpcfcaaNetEqC
namespace Go.Proofs.Ytlppmamhbpcfcaa.NetEq
open Go.RowKit Go.Proofs.Ytlppmamhbpcfcaa.MNet Go.Proofs.Ytlppmamhbpcfcaa.Plain Go.Proofs.YtlppmamhbpcfcaaW.PrintWords Go.Proofs.YtlppmamhbpcfcaaW.PrintLast Go.Proofs.YtlppmamhbpcfcaaW.PrintMore
set_option linter.unusedVariables false
set_option linter.unusedSimpArgs false

section
variable {k : Nat} {l : List S40}
theorem give_both (n : Int) (hl : Held l) (h1 : l.length ≤ 1000) (hk : 200000 < k) : ∃ x b l' e, net_Give.f k l n = some (x, b, l', e) ∧ thrumref21_Give.f k l n = some (x, b, l', e) ∧ l'.length ≤ 2000 := by
  rw [Give_f k l n hl (by omega) (by omega), rGive_f k l n hl (by omega) (by omega)]
  split
  · exact ⟨_, _, _, _, rfl, rfl, by have := List.length_eraseIdx_le l n.toNat; omega⟩
  · exact ⟨_, _, _, _, rfl, rfl, by omega⟩
theorem drop_both (n : Int) (hl : Held l) (h1 : l.length ≤ 1000) (hk : 200000 < k) : ∃ l' e, net_Drop.f k l n = some (l', e) ∧ thrumref21_Drop.f k l n = some (l', e) ∧ l'.length ≤ 2000 := by
  rw [Drop_f k l n hl (by omega) (by omega), rDrop_f k l n hl (by omega) (by omega)]
  split
  · exact ⟨_, _, rfl, rfl, by have := List.length_eraseIdx_le l n.toNat; omega⟩
  · exact ⟨_, _, rfl, rfl, by omega⟩
theorem twice_both (n : Int) (hl : Held l) (h1 : l.length ≤ 1000) (hk : 200000 < k) : ∃ l' e, net_Twice.f k l n = some (l', e) ∧ thrumref21_Twice.f k l n = some (l', e) ∧ l'.length ≤ 2000 := by
  rw [Twice_f k l n hl (by omega) (by omega), rTwice_f k l n hl (by omega) (by omega)]
  split
  · split
    · exact ⟨_, _, rfl, rfl, by omega⟩
    · exact ⟨_, _, rfl, rfl, by simp; omega⟩
  · exact ⟨_, _, rfl, rfl, by omega⟩
theorem swap_both (a b : Int) (hl : Held l) (h1 : l.length ≤ 1000) (hk : 200000 < k) : ∃ l' e, net_Swap.f k l a b = some (l', e) ∧ thrumref21_Swap.f k l a b = some (l', e) ∧ l'.length ≤ 2000 := by
  rw [Swap_f k l a b hl (by omega) (by omega), rSwap_f k l a b hl (by omega) (by omega)]
  split
  · exact ⟨_, _, rfl, rfl, by rw [swapS_length]; omega⟩
  · exact ⟨_, _, rfl, rfl, by omega⟩
theorem spoil_both (a b : Int) (hl : Held l) (h1 : l.length ≤ 1000) (hb : b < 9223372036854775808) (hk : 200000 < k) : ∃ l' e, net_Spoil.f k l a b = some (l', e) ∧ thrumref21_Spoil.f k l a b = some (l', e) ∧ l'.length ≤ 2000 := by
  rw [Spoil_f k l a b hl (by omega) hb (by omega), rSpoil_f k l a b hl (by omega) hb (by omega)]
  split
  · split
    · exact ⟨_, _, rfl, rfl, by rw [List.length_set]; omega⟩
    · exact ⟨_, _, rfl, rfl, by omega⟩
  · exact ⟨_, _, rfl, rfl, by omega⟩
end
theorem bne_self (e : Int) : (e != e) = false := bne_self_eq_false e
theorem does_e (k : Nat) (hk : 200000 < k) (l g : List S40) (n a3 who a5 : Int) (hl : l.length ≤ 1000) : thrumlaw21_NetDoes.e k l g n a3 who a5 l = some true := by
  simp only [thrumlaw21_NetDoes.e]
  obtain ⟨r, hr⟩ := rSame_total k l g (by omega) (by omega)
  rw [same_refl k l (by omega) (by omega), bindS, if_pos rfl, Check_f k n l (by omega) (by omega), bindS, rCheck_f k n l (by omega) (by omega), bindS, if_pos rfl, For_f k l who (by omega) (by omega), bindS, rFor_f k l who (by omega) (by omega), bindS, if_pos rfl, Same_eq, hr, bindS, bindS]
  simp
theorem does_xx (k : Nat) (hk : 200100 < k) (l g : List S40) (n at_ who bit : Int) (hh : Held l) (hl : l.length ≤ 1000) (hb : bit < 9223372036854775808) : thrumlaw21_NetDoes.xx k l g n at_ who bit l = some true := by
  obtain ⟨k, rfl⟩ : ∃ j, k = j + 2 := ⟨k - 2, by omega⟩
  simp only [thrumlaw21_NetDoes.xx]
  obtain ⟨l1, e1, s1, t1, u1⟩ := swap_both (k := k + 2) at_ who hh hl (by omega)
  obtain ⟨l2, e2, s2, t2, u2⟩ := spoil_both (k := k + 1) at_ bit hh hl hb (by omega)
  rw [s1, bindS, t1, bindS]
  simp only
  rw [same_refl _ l1 (by omega) (by omega), bindS, if_pos rfl, bne_self, thrumlaw21_NetDoes.x0, if_neg (by decide), s2, bindS, t2, bindS]
  simp only
  rw [same_refl _ l2 (by omega) (by omega), bindS, if_pos rfl, bne_self, thrumlaw21_NetDoes.x1, if_neg (by decide), if_pos (by omega)]
  exact does_e k (by omega) l g n 0 who 0 hl
theorem does_cc (k : Nat) (hk : 200200 < k) (l g : List S40) (n at_ who bit : Int) (hh : Held l) (hl : l.length ≤ 1000) (hb : bit < 9223372036854775808) : thrumlaw21_NetDoes.cc k l g n at_ who bit l = some true := by
  obtain ⟨k, rfl⟩ : ∃ j, k = j + 2 := ⟨k - 2, by omega⟩
  simp only [thrumlaw21_NetDoes.cc]
  obtain ⟨l1, e1, s1, t1, u1⟩ := drop_both (k := k + 2) at_ hh hl (by omega)
  obtain ⟨l2, e2, s2, t2, u2⟩ := twice_both (k := k + 1) at_ hh hl (by omega)
  rw [s1, bindS, t1, bindS]
  simp only
  rw [same_refl _ l1 (by omega) (by omega), bindS, if_pos rfl, bne_self, thrumlaw21_NetDoes.c0, if_neg (by decide), s2, bindS, t2, bindS]
  simp only
  rw [same_refl _ l2 (by omega) (by omega), bindS, if_pos rfl, bne_self, thrumlaw21_NetDoes.c1, if_neg (by decide)]
  exact does_xx k (by omega) l g n at_ who bit hh hl hb
theorem does_j0 (k : Nat) (hk : 200300 < k) (l g : List S40) (n at_ who bit : Int) (hh : Held l) (hl : l.length ≤ 1000) (hb : bit < 9223372036854775808) : thrumlaw21_NetDoes.j0 k l g n at_ who bit l true false = some true := by
  obtain ⟨k, rfl⟩ : ∃ j, k = j + 2 := ⟨k - 2, by omega⟩
  obtain ⟨x, b, l1, e1, s1, t1, u1⟩ := give_both (k := k + 1) at_ hh hl (by omega)
  rw [thrumlaw21_NetDoes.j0, if_neg (by decide), s1, bindS, t1, bindS]
  simp only
  rw [one_refl, bindS, if_pos rfl, same_refl _ l1 (by omega) (by omega), bindS, if_pos rfl, bne_self, thrumlaw21_NetDoes.j1, if_neg (by decide)]
  exact does_cc k (by omega) l g n at_ who bit hh hl hb
theorem does (l g : List S40) (n at_ who bit : Int) (hg : GramsOk l) (hg2 : GramsOk g) (h1 : l.length ≤ maxLen) (h2 : g.length ≤ maxLen) (hb : bit < 9223372036854775808) : ∃ k, thrumlaw21_NetDoes.f k l g n at_ who bit = some true := by
  obtain ⟨k, hk⟩ : ∃ k, k = l.length + g.length + 300000 := ⟨_, rfl⟩
  refine ⟨k + 1, ?_⟩
  have hl := GramsOk.held hg
  have hl2 := GramsOk.held hg2
  simp only [thrumlaw21_NetDoes.f]
  rw [live_eq _ (by omega), bindS, if_pos rfl]
  obtain ⟨b1, e1, p1⟩ := few_f (k + 1) l h1 (by omega)
  rw [e1, bindS]
  cases b1 with
  | false => rw [if_neg (by decide), thrumlaw21_NetDoes.i0, if_pos rfl]
  | true =>
    have hn := p1 rfl
    rw [if_pos rfl]
    obtain ⟨b2, e2, p2⟩ := few_f (k + 1) g h2 (by omega)
    rw [e2, bindS]
    cases b2 with
    | false => rw [Bool.not_false, thrumlaw21_NetDoes.i0, if_pos rfl]
    | true =>
      have hn2 := p2 rfl
      have hr : roomS l g ≤ g.length := Nat.min_le_right _ _
      have hlen : (l ++ g.take (roomS l g)).length ≤ 2000 := by rw [List.length_append, List.length_take]; omega
      rw [Bool.not_true, thrumlaw21_NetDoes.i0, if_neg (by decide), rCopy_f k l hl (by omega) (by omega), bindS, Send_f k l g hl hl2 (by omega) (by omega) (by omega), bindS]
      simp only [thrumlaw21_NetDoes.g]
      rw [if_pos (by omega), rSend_f k l g hl hl2 (by omega) (by omega) (by omega), bindS]
      simp only
      rw [same_refl _ _ (by omega) (by omega), bindS, if_pos rfl, bne_self]
      exact does_j0 k (by omega) l g n at_ who bit hl (by omega) hb
end Go.Proofs.Ytlppmamhbpcfcaa.NetEq
