/- The law NetGives in plain words: what is sent is given as it was, each once, in whatever order; condition: texts no longer than memory allows. -/
import Derived.Test.YtlppmamhbpcfcaaPNLGives
import Derived.Test.YtlppmamhbpcfcaaNetEq
namespace Go.Proofs.Ytlppmamhbpcfcaa.NetEq
open Go.RowKit Go.Proofs.Ytlppmamhbpcfcaa.MNet Go.Proofs.Ytlppmamhbpcfcaa.Plain Go.Proofs.YtlppmamhbpcfcaaW.PrintWords Go.Proofs.YtlppmamhbpcfcaaW.PrintLast Go.Proofs.YtlppmamhbpcfcaaW.PrintMore
set_option linter.unusedVariables false
set_option linter.unusedSimpArgs false

def iota (n : Nat) : List Int := (List.range n).map fun i : Nat => (i : Int)
theorem iota_length (n : Nat) : (iota n).length = n := by simp [iota]
theorem rd_iota (n i : Nat) (h : i < n) : rd (iota n) (i : Int) = i := by simp [rd_nat, iota, List.getD_eq_getElem?_getD, h]
/-- The places left, all of them places in g. -/
def Places (g : List S40) (x : List Int) : Prop := ∀ i ∈ x, 0 ≤ i ∧ i < (g.length : Int)
theorem gives_fill (g : List S40) (o : List Int) (b : Bool) (y : List S40) (n : Nat) (hn : n ≤ 1000) (d : Nat) : ∀ (i F : Nat) (x : List Int), i + d = n → x.length = n → (∀ j : Nat, j < i → rd x (j : Int) = j) →
    thrumlaw21_NetGives.l0 (F + d + 1) g o b y x (n : Int) (i : Int) = thrumlaw21_NetGives.l1 F g o b y (iota n) (g.length : Int) 0 := by
  induction d with
  | zero =>
    intro i F x hi hx hr
    have : x = iota n := by
      apply rd_ext (by rw [hx, iota_length])
      intro j hj
      rw [hr j (by omega), rd_iota n j (by omega)]
    rw [thrumlaw21_NetGives.l0, if_neg (by omega), this]
  | succ d ih =>
    intro i F x hi hx hr
    rw [show F + (d + 1) + 1 = (F + d + 1) + 1 by omega, thrumlaw21_NetGives.l0, if_pos (by omega), if_pos (by omega), if_pos (by omega), next_at i (by omega), Int.toNat_natCast]
    refine ih (i + 1) F _ (by omega) (by simpa using hx) (fun j hj => ?_)
    rw [rd_set x i j _ (by omega)]
    split
    · omega
    · exact hr j (by omega)
theorem tmod_range (a : Int) {n : Nat} (hn : 0 < n) : -(n : Int) < Int.tmod a (n : Int) ∧ Int.tmod a (n : Int) < (n : Int) := by
  have hp : (0 : Int) < (n : Int) := by omega
  exact ⟨Int.lt_tmod_of_pos a hp, Int.tmod_lt_of_pos a hp⟩
theorem rd_mem {l : List Int} {n : Nat} (h : n < l.length) : rd l (n : Int) ∈ l := by
  have e : rd l (n : Int) = l[n] := by simp [rd_nat, List.getD_eq_getElem?_getD, List.getElem?_eq_getElem h]
  rw [e]
  exact List.getElem_mem h
theorem erase_map {α β : Type} (f : α → β) (x : List α) (n : Nat) : (x.map f).eraseIdx n = (x.eraseIdx n).map f := by
  rw [List.eraseIdx_eq_take_drop_succ, List.eraseIdx_eq_take_drop_succ, List.map_append, List.map_take, List.map_drop]
theorem gives_step (g : List S40) (o : List Int) (hg : Held g) (hgn : g.length ≤ 512) (x : List Int) (hx : Places g x) (hxl : x.length ≤ 512) (n : Nat) (hn : n < x.length) (F i : Nat) (hi : i < 1000) (hF : 200000 < F) (N : Int) :
    thrumlaw21_NetGives.j4 (F + 1) g o true (x.map (rd_T40 g)) x (n : Int) N (i : Int) = thrumlaw21_NetGives.l1 F g o true ((x.eraseIdx n).map (rd_T40 g)) (x.eraseIdx n) N ((i + 1 : Nat) : Int) := by
  have hheld : Held (x.map (rd_T40 g)) := by
    intro y hy
    obtain ⟨j, hj, rfl⟩ := List.mem_map.1 hy
    obtain ⟨h0, h1⟩ := hx j hj
    obtain ⟨m, rfl⟩ := Int.eq_ofNat_of_zero_le h0
    rw [rdT_nat g m (by omega)]
    exact hg _ (List.getElem_mem _)
  have hlen : (x.map (rd_T40 g)).length = x.length := List.length_map _
  have hrd : rd_T40 (x.map (rd_T40 g)) (n : Int) = rd_T40 g (rd x (n : Int)) := by
    rw [rdT_nat _ n (by omega), List.getElem_map]
    congr 1
    simp [rd_nat, List.getD_eq_getElem?_getD, List.getElem?_eq_getElem hn]
  obtain ⟨h0, h1⟩ := hx _ (rd_mem hn)
  rw [thrumlaw21_NetGives.j4, Give_f F _ _ hheld (by omega) (by omega), hlen, if_pos ⟨by omega, by omega⟩, bindS]
  simp only
  rw [if_pos trivial, if_pos (by omega), if_pos (by omega), if_pos h0, if_pos h1, hrd, one_refl, bindS, if_pos rfl, Int.toNat_natCast]
  have hel : ((x.map (rd_T40 g)).eraseIdx n).length = x.length - 1 := by
    rw [List.length_eraseIdx, hlen, if_pos hn]
  rw [hel, if_pos (by rw [wrap_same (by omega) (by omega)]; omega), if_pos (by omega), bindS, if_pos (by rw [List.length_take]; simp; omega), bindS, wrap_same (i := (n : Int) + 1) (by omega) (by omega), if_pos (by omega), if_pos (by omega), bindS, show ((n : Int) + 1).toNat = n + 1 by omega]
  rw [if_pos (by rw [List.nil_append, List.length_take, List.length_drop]; omega), List.nil_append, ← List.eraseIdx_eq_take_drop_succ, erase_map, wrap_same (i := (i : Int) + 1) (by omega) (by omega)]
  rfl
theorem gives_loop (g : List S40) (o : List Int) (hg : Held g) (hgn : g.length ≤ 512) (d : Nat) : ∀ (i F : Nat) (x : List Int), i + d = g.length → x.length = d → Places g x → 200000 < F →
    thrumlaw21_NetGives.l1 (F + 2 * d + 1) g o true (x.map (rd_T40 g)) x (g.length : Int) (i : Int) = some true := by
  induction d with
  | zero =>
    intro i F x hi hx hp hF
    rw [thrumlaw21_NetGives.l1, if_neg (by omega), if_pos rfl]
    obtain rfl : x = [] := List.eq_nil_of_length_eq_zero hx
    rfl
  | succ d ih =>
    intro i F x hi hx hp hF
    have hstep : ∀ n : Nat, n < x.length → thrumlaw21_NetGives.j4 (F + 2 * d + 1 + 1) g o true (x.map (rd_T40 g)) x (n : Int) (g.length : Int) (i : Int) = some true := by
      intro n hn
      rw [gives_step g o hg hgn x hp (by omega) n hn (F + 2 * d + 1) i (by omega) (by omega)]
      exact ih (i + 1) F (x.eraseIdx n) (by omega) (by rw [List.length_eraseIdx, if_pos hn]; omega) (fun j hj => hp j (List.mem_of_mem_eraseIdx hj)) hF
    rw [show F + 2 * (d + 1) + 1 = (F + 2 * d + 1 + 1) + 1 by omega, thrumlaw21_NetGives.l1, if_pos (by omega)]
    by_cases ho : (i : Int) < (o.length : Int)
    · rw [if_pos ho, if_pos (by omega), if_neg (by omega)]
      obtain ⟨t0, t1⟩ := tmod_range (rd o (i : Int)) (n := x.length) (by omega)
      rw [wrap_same (by omega) (by omega)]
      obtain ⟨m, hm⟩ := Int.eq_ofNat_of_zero_le (Int.tmod_nonneg (x.length : Int) (show 0 ≤ Int.tmod (rd o (i : Int)) (x.length : Int) + (x.length : Int) by omega))
      have h2 := (tmod_range (Int.tmod (rd o (i : Int)) (x.length : Int) + (x.length : Int)) (n := x.length) (by omega)).2
      rw [hm] at h2 ⊢
      exact hstep m (by omega)
    · rw [if_neg ho]
      exact hstep 0 (by omega)
theorem gives (g : List S40) (o : List Int) (hg : GramsOk g) (h1 : g.length ≤ maxLen) : ∃ k, thrumlaw21_NetGives.f k g o = some true := by
  refine ⟨g.length + 300002, ?_⟩
  simp only [thrumlaw21_NetGives.f]
  rw [live_eq _ (by omega), bindS, if_pos rfl]
  obtain ⟨b1, e1, p1⟩ := few_f (g.length + 300002) g h1 (by omega)
  rw [e1, bindS]
  cases b1 with
  | false => rw [if_neg (by decide), thrumlaw21_NetGives.j0, if_pos rfl]
  | true =>
    have q1 := p1 rfl
    clear p1 e1
    rw [if_pos rfl]
    by_cases h5 : (g.length : Int) > 512
    · rw [decide_eq_true h5, thrumlaw21_NetGives.j0, if_pos rfl]
    · rw [decide_eq_false h5, thrumlaw21_NetGives.j0, if_neg (by decide), Send_f (g.length + 300001) [] g (fun x hx => by simp at hx) (GramsOk.held hg) (by simp) (by omega) (by omega), bindS]
      have hr : roomS [] g = g.length := by
        unfold roomS
        simp
        omega
      simp only
      rw [hr, List.nil_append, List.take_length, if_pos (by omega), same_refl (g.length + 300001) g (by omega) (by omega), bindS, show g.length + 300001 = (g.length + 300000) + 1 from rfl, thrumlaw21_NetGives.j1, if_neg (by decide), if_pos (by omega), if_pos (by omega), bindS, Int.toNat_natCast, List.length_replicate]
      have hf := gives_fill g o true g g.length (by omega) g.length 0 (300000 - 1) (List.replicate g.length 0) (by omega) (by simp) (fun j hj => by omega)
      rw [show 300000 - 1 + g.length + 1 = g.length + 300000 by omega] at hf
      have hm : (iota g.length).map (rd_T40 g) = g := by
        apply List.ext_getElem (by simp [iota])
        intro j h2 h3
        simp only [iota, List.map_map, List.getElem_map, List.getElem_range, Function.comp]
        exact rdT_nat g j h3
      have hl := gives_loop g o (GramsOk.held hg) (by omega) g.length 0 (300000 - 1 - 2 * g.length - 1) (iota g.length) (by omega) (iota_length _) (fun j hj => by
        obtain ⟨m, hm, rfl⟩ := List.mem_map.1 hj
        have := List.mem_range.1 hm
        omega) (by omega)
      rw [show 300000 - 1 - 2 * g.length - 1 + 2 * g.length + 1 = 300000 - 1 by omega, hm] at hl
      exact hf.trans hl
end Go.Proofs.Ytlppmamhbpcfcaa.NetEq
