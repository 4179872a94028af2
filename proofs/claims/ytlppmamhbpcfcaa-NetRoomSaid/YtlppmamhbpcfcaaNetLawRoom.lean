/- The law NetRoom in plain words: there are never more underway than may be, what is sent is behind what was there; condition: texts no longer than memory allows. -/
import Derived.Test.YtlppmamhbpcfcaaPNLRoom
import Derived.Test.YtlppmamhbpcfcaaNetEq
namespace Go.Proofs.Ytlppmamhbpcfcaa.NetEq
open Go.RowKit Go.Proofs.Ytlppmamhbpcfcaa.MNet Go.Proofs.Ytlppmamhbpcfcaa.Plain Go.Proofs.YtlppmamhbpcfcaaW.PrintWords Go.Proofs.YtlppmamhbpcfcaaW.PrintLast Go.Proofs.YtlppmamhbpcfcaaW.PrintMore
set_option linter.unusedVariables false
set_option linter.unusedSimpArgs false

theorem room (l g : List S40) (hl : GramsOk l) (hg : GramsOk g) (h1 : l.length ≤ maxLen) (h2 : g.length ≤ maxLen) : ∃ k, thrumlaw21_NetRoom.f k l g = some true := by
  refine ⟨l.length + g.length + 10002, ?_⟩
  simp only [thrumlaw21_NetRoom.f]
  rw [live_eq _ (by omega), bindS, if_pos rfl]
  obtain ⟨b1, e1, p1⟩ := few_f (l.length + g.length + 10002) l h1 (by omega)
  obtain ⟨b2, e2, p2⟩ := few_f (l.length + g.length + 10002) g h2 (by omega)
  rw [e1, bindS]
  cases b1 with
  | false =>
    rw [if_neg (by decide), thrumlaw21_NetRoom.j0, if_pos rfl]
  | true =>
    rw [if_pos rfl, e2, bindS]
    cases b2 with
    | false => rw [thrumlaw21_NetRoom.j0, if_pos (by decide)]
    | true =>
      have q1 := p1 rfl
      have q2 := p2 rfl
      clear p1 p2 e1 e2
      rw [thrumlaw21_NetRoom.j0, if_neg (by decide), Send_f (l.length + g.length + 10001) l g (GramsOk.held hl) (GramsOk.held hg) (by omega) (by omega) (by omega), bindS]
      have hr1 : roomS l g ≤ g.length := Nat.min_le_right _ _
      have hr2 : roomS l g ≤ 512 - l.length := Nat.min_le_left _ _
      have hr3 : roomS l g = 512 - l.length ∨ roomS l g = g.length := by unfold roomS; omega
      have hlen : (l ++ g.take (roomS l g)).length = l.length + roomS l g := by rw [List.length_append, List.length_take]; omega
      simp only
      rw [hlen, if_neg (by omega), if_neg (by omega), if_pos (by rw [wrap_same (by omega) (by omega), wrap_same (by omega) (by omega)]; omega)]
      have hmx : mx (l.length : Int) 512 = if l.length < 512 then 512 else (l.length : Int) := by
        unfold mx
        split <;> split <;> omega
      have hd : decide (((l.length + roomS l g : Nat) : Int) > mx (l.length : Int) 512) = false := by
        rw [hmx]
        apply decide_eq_false
        split <;> omega
      rw [hd, show l.length + g.length + 10001 = (l.length + g.length + 10000) + 1 from rfl, thrumlaw21_NetRoom.j1, if_neg (by decide), if_pos rfl, hlen, Int.toNat_natCast]
      have hw : wrap64 ((g.length : Int) - ((g.length : Int) - (roomS l g : Int))) = ((roomS l g : Nat) : Int) := by
        rw [wrap_same (by omega) (by omega)]
        omega
      have ht : (l ++ g.take (roomS l g)).take l.length = l := by simp
      have hdr : (l ++ g.take (roomS l g)).drop l.length = g.take (roomS l g) := by simp
      have hs1 := same_refl (l.length + g.length + 10000) l (by omega) (by omega)
      have hs2 := same_refl (l.length + g.length + 10000) (g.take (roomS l g)) (by rw [List.length_take]; omega) (by rw [List.length_take]; omega)
      rw [hw, ht, hdr, Int.toNat_natCast]
      by_cases h0 : (g.length : Int) - (roomS l g : Int) = 0
      · rw [if_pos h0, if_pos (by omega), if_pos (by omega), hs1, bindS, if_pos rfl, if_pos (by omega), if_pos (by omega), hs2, bindS]
      · rw [if_neg h0, if_pos (by omega), if_pos (by omega), if_pos (by omega), hs1, bindS, if_pos rfl, if_pos (by omega), if_pos (by omega), hs2, bindS]
end Go.Proofs.Ytlppmamhbpcfcaa.NetEq
