/- The plain side of LebBack: what was put is got, whatever stands ahead and behind; no condition beyond the row's own sizes. -/
import Derived.Test.YtejhbmdjdbbnpaaMLebx8
import Derived.Test.YtejhbmdjdbbnpaaLebEqD
namespace Go.Proofs.Ytejhbmdjdbbnpaa.Pure
open Go.RowKit Go.Proofs.Ytejhbmdjdbbnpaa.MLeb Go.Proofs.Ytejhbmdjdbbnpaa.LebEq Go.Proofs.Ytejhbmdjdbbnpaa.DrawPlain Go.Proofs.Ytejhbmdjdbbnpaa.LebPlain Go.Proofs.YtejhbmdjdbbnpaaW.PrintWords
theorem getG_codeI (a r : List Int) (x : Int) (h0 : 0 ≤ x) (h1 : x < 18446744073709551616) : getG (a ++ codeI x ++ r) (a.length : Int) = (x, (a.length : Int) + (codeI x).length, 0) := by
  obtain ⟨n, rfl⟩ := Int.eq_ofNat_of_zero_le h0
  rw [codeI, Int.toNat_natCast]
  exact getG_code a r n (by omega)
theorem back_end (x1 : List Int) (hb : Bytes x1) (hn : x1.length ≤ 2000) (p : List Int) (hp : p.length ≤ 500000) (x20 : List Int) (k : Nat) (hk : 100 ≤ k) (h20 : x20 = p ++ x1) (l : List Int) (i : Int) (hi : ¬ i < (l.length : Int)) :
    thrumlaw03_LebBack.l1 k x1 true (p.length : Int) x20 l (l.length : Int) i = some true := by
  obtain ⟨k, rfl⟩ : ∃ m, k = m + 1 := ⟨k - 1, by omega⟩
  have hlast : ((p.length : Int) == wrap64 ((x20.length : Int) - (x1.length : Int))) = true := by
    rw [h20, beq_iff_eq, List.length_append, wrap_same (by omega) (by omega)]
    omega
  simp only [thrumlaw03_LebBack.l1]
  rw [if_neg hi, get_f k x1 0 hb (by omega) (by omega) (by omega), bindS, hlast]
  by_cases he : (getG x1 0).2.2 = 0
  · obtain ⟨m, h1, h2, h3, h4, h5, h6⟩ := getG_next (pos := 0) (n := (getG x1 0).1) (nx := (getG x1 0).2.1) (e := (getG x1 0).2.2) rfl hb he
    rw [Int.toNat_zero, List.drop_zero] at h6
    rw [Int.toNat_zero] at h5
    rw [if_pos he, if_neg (by omega), if_neg (by omega)]
    have hw : Words [(getG x1 0).1] := by
      intro x hx
      rw [List.mem_singleton] at hx
      omega
    rw [Put_f k [] _ hw (by simp) (by simp) (by simp only [List.length_cons, List.length_nil]; omega), bindS, if_pos (by omega), if_pos (by omega)]
    have hc : codesI [(getG x1 0).1] = codeS m := by
      rw [h1]
      simp [codesI, codeI]
    rw [hc, List.nil_append, show ((getG x1 0).2.1 : Int).toNat = (codeS m).length by omega, h6]
    have hcb : Bytes (codeS m) := codeS_bytes _ _ (Nat.le_refl _)
    rw [same_f _ _ hcb hcb, bindS, if_pos (decide_eq_true rfl), if_pos trivial]
  · rw [if_neg he, if_pos trivial]
theorem back_l1 (x0 x1 l : List Int) (hb1 : Bytes x1) (hl : Ints l) (hb0 : Bytes x0) (h0 : x0.length ≤ 2000) (h1 : x1.length ≤ 2000) (hn : l.length ≤ 500) (d : Nat) : ∀ (k i : Nat), i + d = l.length → d + 200 < k →
    thrumlaw03_LebBack.l1 k x1 true ((x0 ++ codesI ((l.take i).map zigZ)).length : Int) (x0 ++ codesI (l.map zigZ) ++ x1) l (l.length : Int) (i : Int) = some true := by
  induction d with
  | zero =>
    intro k i hi hk
    have hc := codesI_len _ (Ints.zig hl)
    rw [List.length_map] at hc
    rw [List.take_of_length_le (show l.length ≤ i by omega)]
    exact back_end x1 hb1 h1 _ (by simp only [List.length_append]; omega) _ k (by omega) rfl l i (by omega)
  | succ d ih =>
    intro k i hi hk
    obtain ⟨k, rfl⟩ : ∃ m, k = m + 1 := ⟨k - 1, by omega⟩
    obtain ⟨r0, r1⟩ := Ints.rd hl i (by omega)
    obtain ⟨z0, z1⟩ := zigZ_range r0 r1
    have hc := codesI_len _ (Ints.zig hl)
    rw [List.length_map] at hc
    have hsplit : l = l.take i ++ rd l (i : Int) :: l.drop (i + 1) := by
      rw [← rd_drop l i (by omega), List.take_append_drop]
    have htake : l.take (i + 1) = l.take i ++ [rd l (i : Int)] := by
      rw [rd_nat, List.take_add_one, List.getD_eq_getElem?_getD, List.getElem?_eq_getElem (show i < l.length by omega)]
      rfl
    have htext : x0 ++ codesI (l.map zigZ) ++ x1 = (x0 ++ codesI ((l.take i).map zigZ)) ++ codeI (zigZ (rd l (i : Int))) ++ (codesI ((l.drop (i + 1)).map zigZ) ++ x1) := by
      have e : l.map zigZ = (l.take i).map zigZ ++ zigZ (rd l (i : Int)) :: (l.drop (i + 1)).map zigZ := by
        rw [← List.map_cons, ← List.map_append, ← hsplit]
      rw [e, codesI_append, codesI_cons]
      simp only [List.append_assoc]
    have hbytes : Bytes (x0 ++ codesI (l.map zigZ) ++ x1) := (hb0.append (codesI_bytes _)).append hb1
    have hlen : ((x0 ++ codesI ((l.take i).map zigZ)).length : Int) + (codeI (zigZ (rd l (i : Int)))).length = ((x0 ++ codesI ((l.take (i + 1)).map zigZ)).length : Int) := by
      rw [htake, List.map_append, codesI_append]
      simp only [List.length_append, List.map_cons, List.map_nil, codesI_cons]
      simp [codesI]
      omega
    have hle : (x0 ++ codesI ((l.take i).map zigZ)).length ≤ 100000 := by
      have := codesI_len _ (Ints.zig (l := l.take i) (fun x hx => hl x (List.mem_of_mem_take hx)))
      rw [List.length_map, List.length_take] at this
      simp only [List.length_append]
      omega
    simp only [thrumlaw03_LebBack.l1]
    rw [if_pos (by omega), if_pos (by omega), if_pos (by omega), take_f k _ _ hbytes (by simp only [List.length_append]; omega) (by omega) (by omega), bindS]
    have hg := getG_codeI (x0 ++ codesI ((l.take i).map zigZ)) (codesI ((l.drop (i + 1)).map zigZ) ++ x1) _ z0 z1
    rw [← htext, hlen] at hg
    rw [takeG, hg, if_pos rfl]
    rw [if_pos rfl, zag_zig, if_pos rfl, wrap_same (by omega) (by omega), show ((i : Int) + 1) = ((i + 1 : Nat) : Int) by omega]
    exact ih k (i + 1) (by omega) (by omega)
theorem back_l0 (x0 x1 l s : List Int) (hb1 : Bytes x1) (hl : Words l) (hs : Ints s) (hb0 : Bytes x0) (h0 : x0.length ≤ 2000) (h1 : x1.length ≤ 2000) (hn : l.length ≤ 500) (hns : s.length ≤ 500) (d : Nat) : ∀ (k i : Nat), i + d = l.length → d + 2000 < k →
    thrumlaw03_LebBack.l0 k x0 x1 s true (x0 ++ codesI l ++ x1) ((x0 ++ codesI (l.take i)).length : Int) l (l.length : Int) (i : Int) = some true := by
  induction d with
  | zero =>
    intro k i hi hk
    obtain ⟨k, rfl⟩ : ∃ m, k = m + 1 := ⟨k - 1, by omega⟩
    have hc := codesI_len _ (Ints.zig hs)
    rw [List.length_map] at hc
    simp only [thrumlaw03_LebBack.l0]
    rw [if_neg (by omega), Signed_f k x0 s hs (by omega) (by omega) (by omega), bindS, if_pos (by simp only [List.length_append]; omega)]
    have := back_l1 x0 x1 s hb1 hs hb0 h0 h1 hns s.length k 0 (by omega) (by omega)
    simpa [codesI] using this
  | succ d ih =>
    intro k i hi hk
    obtain ⟨k, rfl⟩ : ∃ m, k = m + 1 := ⟨k - 1, by omega⟩
    obtain ⟨z0, z1⟩ := Words.rd hl i (by omega)
    have hc := codesI_len _ hl
    have hsplit : l = l.take i ++ rd l (i : Int) :: l.drop (i + 1) := by
      rw [← rd_drop l i (by omega), List.take_append_drop]
    have htake : l.take (i + 1) = l.take i ++ [rd l (i : Int)] := by
      rw [rd_nat, List.take_add_one, List.getD_eq_getElem?_getD, List.getElem?_eq_getElem (show i < l.length by omega)]
      rfl
    have htext : x0 ++ codesI l ++ x1 = (x0 ++ codesI (l.take i)) ++ codeI (rd l (i : Int)) ++ (codesI (l.drop (i + 1)) ++ x1) := by
      have e : codesI l = codesI (l.take i ++ rd l (i : Int) :: l.drop (i + 1)) := by rw [← hsplit]
      rw [e, codesI_append, codesI_cons]
      simp only [List.append_assoc]
    have hbytes : Bytes (x0 ++ codesI l ++ x1) := (hb0.append (codesI_bytes _)).append hb1
    have hlen : ((x0 ++ codesI (l.take i)).length : Int) + (codeI (rd l (i : Int))).length = ((x0 ++ codesI (l.take (i + 1))).length : Int) := by
      rw [htake, codesI_append]
      simp only [List.length_append, codesI_cons]
      simp [codesI]
      omega
    have hle : (x0 ++ codesI (l.take i)).length ≤ 100000 := by
      have := codesI_len (l.take i) (fun x hx => hl x (List.mem_of_mem_take hx))
      rw [List.length_take] at this
      simp only [List.length_append]
      omega
    have hcl := codeI_len z1
    simp only [thrumlaw03_LebBack.l0]
    rw [if_pos (by omega), if_pos (by omega), if_pos (by omega), get_f k _ _ hbytes (by simp only [List.length_append]; omega) (by omega) (by omega), bindS]
    have hg := getG_codeI (x0 ++ codesI (l.take i)) (codesI (l.drop (i + 1)) ++ x1) _ z0 z1
    rw [← htext] at hg
    rw [hg, if_pos rfl, if_pos rfl, size_f k (by omega) _ z0 z1, bindS, if_pos (by rw [wrap_same (by omega) (by omega)]), wrap_same (by omega) (by omega), show ((i : Int) + 1) = ((i + 1 : Nat) : Int) by omega, hlen]
    exact ih k (i + 1) (by omega) (by omega)
theorem LebBack : thrumlaw03_LebBack.Pure := by
  intro l0 l1 l2 l3 _ _ hl0 _ _ hl1 _ _ hl2 _ _ hl3
  have hb0 : Bytes l0 := fun x hx => wf_u8 (hl0 x hx)
  have hb1 : Bytes l1 := fun x hx => wf_u8 (hl1 x hx)
  have hw : Words l2 := fun x hx => wf_u64 (hl2 x hx)
  have hs : Ints l3 := fun x hx => wf_i64 (hl3 x hx)
  refine ⟨200002, ?_⟩
  simp only [thrumlaw03_LebBack.f, live_eq 200002 (by omega), bindS, if_true, few_f]
  by_cases h : (l0.length : Int) ≤ 2000 ∧ (l2.length : Int) ≤ 500
  · rw [if_pos (by simpa using h)]
    by_cases h2 : (l1.length : Int) ≤ 2000 ∧ (l3.length : Int) ≤ 500
    · rw [decide_eq_true h2]
      simp only [thrumlaw03_LebBack.j0]
      have hc := codesI_len l2 hw
      rw [if_neg (by simp), Put_f 200001 l0 l2 hw (by omega) (by omega) (by omega), bindS, if_pos (by simp only [List.length_append]; omega), bindS]
      rw [many_f 200001 _ _ _ ((hb0.append (codesI_bytes _)).append hb1) (by simp only [List.length_append]; omega) (by omega) (by omega) (by omega), bindS, if_neg (show ¬ ((l2.length : Int) < 0) by omega), Int.toNat_natCast, many_codes l2 hw l0 l1 [], List.nil_append]
      rw [if_pos rfl, numbers_f 200001 l2 l2 (by simp only [maxLen]; omega) (by omega), bindS, if_pos (decide_eq_true rfl)]
      rw [wrap_same (by simp only [List.length_append]; omega) (by simp only [List.length_append]; omega)]
      rw [show (((l0 ++ codesI l2).length : Int) != ((l0 ++ codesI l2 ++ l1).length : Int) - (l1.length : Int)) = false by rw [bne_eq_false_iff_eq]; simp only [List.length_append]; omega]
      simp only [thrumlaw03_LebBack.j1]
      rw [if_neg (by simp)]
      have := back_l0 l0 l1 l2 l3 hb1 hw hs hb0 (by omega) (by omega) (by omega) (by omega) l2.length 200000 0 (by omega) (by omega)
      simpa [codesI] using this
    · rw [decide_eq_false h2]
      simp only [thrumlaw03_LebBack.j0]
      rw [if_pos (by simp)]
  · rw [if_neg (by simpa using h)]
    simp only [thrumlaw03_LebBack.j0, if_true]
end Go.Proofs.Ytejhbmdjdbbnpaa.Pure
