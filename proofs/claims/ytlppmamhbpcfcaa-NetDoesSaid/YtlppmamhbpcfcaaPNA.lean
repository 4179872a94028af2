/- Functions that the laws use, each as a plain Lean function, with the proof that the Go code comes to just that; no conditions beyond those typed. -/
import Derived.Test.YtlppmamhbpcfcaaNetDel
namespace Go.Proofs.Ytlppmamhbpcfcaa.MNet
open Go.RowKit Go.Proofs.YtlppmamhbpcfcaaW.PrintWords Go.Proofs.YtlppmamhbpcfcaaW.PrintLast Go.Proofs.YtlppmamhbpcfcaaW.PrintMore
attribute [local go_sem] max2_int min2_int max_two min_two max_three min_three max_four min_four   -- for this text's walks alone
set_option linter.unusedVariables false
set_option linter.unusedSimpArgs false

/-! ### slices_Clone_byte_byte: function 78 -/
def slices_Clone_byte_byte.f (l0 : List Int) : Option (List Int) := (some (([] : List Int) : List Int)).bind fun y101 => (if y101.length + l0.length < 140737488355328 then (some (y101 ++ l0)) else (none))
set_option maxHeartbeats 8000000 in
set_option maxRecDepth 100000 in
theorem slices_Clone_byte_byte.calls (A0 : Option Addr) (c0 : Nat) (l0 : List Int) (r : List Int) (w : World) (hr0 : Kd.C (Kd.int .u8) w A0 l0.length l0) (hc0 : l0.length ≤ c0) (h : slices_Clone_byte_byte.f l0 = some r) :
    Calls Try.prog 78 #[.slice A0 l0.length c0] w fun e w' => ∃ v0_ : Value, e = .returned (v0_) ∧ Kd.R (Kd.int .u8) 5 w' w.heap.size (fun _ => True) v0_ r ∧ Below w.heap.size w w' := by
  have hE_ := fun W : World => Go.Lib.run_eql_slice_nil W 26 5 A0 l0.length c0 0 0 Try.underlying26
  cases hA_ : A0.isNone with
  | true =>
    rw [hA_] at hE_
    obtain rfl : A0 = none := by simpa using hA_
    obtain rfl : l0 = [] := by
      obtain ⟨_, _, h2_⟩ := hr0
      rcases l0 with _ | ⟨x_, l_⟩
      · rfl
      · obtain ⟨_, h3_, _⟩ := h2_ (by simp)
        cases h3_
    obtain rfl : r = [] := by
      simp [slices_Clone_byte_byte.f] at h
      first | exact h.symm | exact h
    clear hA_ h hr0 hc0
    simp only [List.length_nil] at hE_ ⊢
    go_enter Try.func78, Try.ntmps78
    go_wp2
    go_ret
    exact ⟨_, rfl, Kd.R_nil _ _ _ _ _, by repeat (first | (with_reducible first | exact Below.refl _ _ | apply below_alloc | apply pw_below_drewN | apply below_drew1) | exact Below.refl _ _)⟩
  | false =>
  rw [hA_] at hE_
  have HR0 := Aside0.mk hr0
  have HC0 := Aside0.mk hc0
  clear hr0 hc0
  have HB := Aside0.mk (Below.refl w.heap.size w)
  have H : ((some (([] : List Int) : List Int)).bind fun y101 => (if y101.length + l0.length < 140737488355328 then (some (y101 ++ l0)) else (none))) = some r := h
  clear h
  obtain ⟨y101, hy101⟩ : ∃ y_ : List Int, y_ = (([] : List Int)) := ⟨_, rfl⟩
  replace H : (if y101.length + l0.length < 140737488355328 then (some (y101 ++ l0)) else (none)) = some r := by first | (rw [hy101]; with_reducible exact H) | (have H2_ := (Option.bind_some _ _).symm.trans H; rw [hy101]; with_reducible exact H2_) | (have H2_ := (Option.bind_some _ _).symm.trans H; with_reducible exact H2_) | with_reducible exact H | (rw [hy101]; exact H) | exact H
  have Ny101 := Aside0.mk hy101
  clear hy101
  by_cases c2 : y101.length + l0.length < 140737488355328
  · rw [if_pos c2] at H
    have LMc2 := Aside0.mk c2
    clear c2
    obtain ⟨y104, hy104⟩ : ∃ y_ : List Int, y_ = (y101 ++ l0) := ⟨_, rfl⟩
    replace H : (some y104) = some r := by first | (rw [hy104]; with_reducible exact H) | (have H2_ := (Option.bind_some _ _).symm.trans H; rw [hy104]; with_reducible exact H2_) | (have H2_ := (Option.bind_some _ _).symm.trans H; with_reducible exact H2_) | with_reducible exact H | (rw [hy104]; exact H) | exact H
    have Ny104 := Aside0.mk hy104
    clear hy104
    obtain rfl := Option.some.inj H
    go_enter Try.func78, Try.ntmps78
    go_wp2_with (first | ((with_reducible refine gate_dst (N := 5) rfl ?_); refine Kd.R_lit (Kd.int .u8) _ 5 ?hg (N := 5) ?hd (xs := ([] : List Int)) (inner := []) (ok := fun _ => True) (okp := fun _ => True) ?hr ?hp (fun _ hk => hk) trivial (Below.refl _ _) (Nat.le_refl _) (by simp) ?_; (case hd => rfl); (case hg => rfl); (case hr => first | (go_simp; done) | (go_simp; rfl)); (case hp => exact (Reps.none _ _)); intro v102 w3 ho4 hb hg_ hnew_; clear hg_ hnew_; (first | rw [← Ny101.out] at ho4 | (simp only [Int.reduceToNat] at ho4; rw [← Ny101.out] at ho4)); have n0_ := Aside0.mk (Kd.R_lower ho4 (below_size (by repeat (first | (with_reducible first | exact HB.out | apply below_alloc | apply pw_below_drewN | apply below_drew1) | exact HB.out)))); have n1_ := Aside0.mk (below_step (by repeat (first | (with_reducible first | exact HB.out | apply below_alloc | apply pw_below_drewN | apply below_drew1) | exact HB.out)) hb); clear HB; have HO103 := n0_; have HB := n1_; clear n0_ n1_; clear hb ho4) | ((with_reducible refine gate_builtin (b := .append) (xs := #[.tmp 5, .tmp 6]) rfl ?_); at_builtin; refine Kd.R_append_rows (Kd.int .u8) (w0 := w) w.heap.size rfl (.tmp 5) (.tmp 6) 26 5 (.int .u8 0) 1 rfl Try.underlying26 info5 rfl (by decide) (by omega) v102 y101 l0 _ _ _ (fun _ => True) (fun _ => False) rfl rfl ?aO ?aR (fun _ _ h => h) (fun _ h => h.elim) ?aF ?aB ?aS ?aL ?_; (case aR => repeat (first | exact (Kd.C_below HR0.out HB.out) | (with_reducible refine Kd.C_alloc ?_ _) | (with_reducible refine Kd.C_drewN ?_ _) | (with_reducible refine Kd.C_drew ?_))); (case aB => exact (by repeat (first | (with_reducible first | exact HB.out | apply below_alloc | apply pw_below_drewN | apply below_drew1) | exact HB.out))); (case aF => exact (fun _ _ => trivial)); (case aO => exact (by (with_reducible repeat (first | apply Kd.R_alloc | apply Kd.R_drewN | apply Kd.R_drew)); exact HO103.out)); (case aS => exact (below_size (by repeat (first | (with_reducible first | exact HB.out | apply below_alloc | apply pw_below_drewN | apply below_drew1) | exact HB.out)))); (case aL => have := LMc2.out; omega); intro v105 w5 ho hb hg hat; rw [← Ny104.out] at ho; have n0_ := Aside0.mk (hb); have n1_ := Aside0.mk (ho); clear HB; clear HO103; have HB := n0_; have HO106 := n1_; clear n0_ n1_; clear ho hb hg hat))
    go_ret
    exact ⟨_, by first | rfl | (simp [errW_none, errW_some] <;> rfl) | (simp [*, errW_none, errW_some] <;> rfl), by (with_reducible repeat (first | apply Kd.R_alloc | apply Kd.R_drewN | apply Kd.R_drew)); exact HO106.out, by repeat (first | (with_reducible first | exact HB.out | apply below_alloc | apply pw_below_drewN | apply below_drew1) | exact HB.out)⟩
  · rw [if_neg c2] at H
    exact absurd H (by simp)

/-! ### net_own: function 66 -/
def net_own.f (a0_0 : Int) (l0_1 : List Int) : Option (Int × List Int) := (slices_Clone_byte_byte.f l0_1).bind fun t109 => (some (a0_0, t109))
set_option maxHeartbeats 8000000 in
set_option maxRecDepth 100000 in
theorem net_own.calls (a0_0 : Int) (A0_1 : Option Addr) (c0_1 : Nat) (l0_1 : List Int) (r1 : Int) (r2 : List Int) (w : World) (hr0_1 : Kd.C (Kd.int .u8) w A0_1 l0_1.length l0_1) (hc0_1 : l0_1.length ≤ c0_1) (h : net_own.f a0_0 l0_1 = some (r1, r2)) :
    Calls Try.prog 66 #[.agg #[.int .i64 a0_0, .slice A0_1 l0_1.length c0_1]] w fun e w' => ∃ v1_ : Value, e = .returned (.agg #[.int .i64 r1, v1_]) ∧ Kd.R (Kd.int .u8) 5 w' w.heap.size (fun _ => True) v1_ r2 ∧ Below w.heap.size w w' := by
  have hu40 := Try.underlying40
  have HR0_1 := Aside0.mk hr0_1
  have HC0_1 := Aside0.mk hc0_1
  clear hr0_1 hc0_1
  have HB := Aside0.mk (Below.refl w.heap.size w)
  have H : ((slices_Clone_byte_byte.f l0_1).bind fun t109 => (some (a0_0, t109))) = some (r1, r2) := h
  clear h
  replace H := Option.bind_eq_some_iff.mp H
  obtain ⟨t109, A20, H⟩ := H
  replace H : (some (a0_0, t109)) = some (r1, r2) := H
  have A2 := Aside0.mk A20
  clear A20
  simp only [Option.some.injEq, Prod.mk.injEq] at H
  obtain ⟨rfl, rfl⟩ := H
  go_enter Try.func66, Try.ntmps66
  try go_wp2_with (first | ((with_reducible refine gate_dst (N := 1) rfl ?_); refine box_event ?hg (N := 1) ?hd (cs := #[.int .i64 a0_0, .slice A0_1 l0_1.length c0_1]) (t := 40) ?hr ?_; (case hd => rfl); (case hg => rfl); (case hr => first | (go_simp; done) | (go_simp; rfl)); intro gb107 hg w3 hbox hb; have n0_ := Aside0.mk (below_step (by repeat (first | (with_reducible first | exact HB.out | apply below_alloc | apply pw_below_drewN | apply below_drew1) | exact HB.out)) hb); have n1_ := Aside0.mk (hbox); have n2_ := Aside0.mk ((by rw [hg]; exact (below_size (by repeat (first | (with_reducible first | exact HB.out | apply below_alloc | apply pw_below_drewN | apply below_drew1) | exact HB.out))) : w.heap.size ≤ gb107)); have n3_ := Aside0.mk ((by rw [hg]; exact (below_size (by repeat (first | (with_reducible first | exact HB.out | apply below_alloc | apply pw_below_drewN | apply below_drew1) | exact HB.out))) : w.heap.size ≤ gb107)); clear HB; have HB := n0_; have BK107 := n1_; have GW107 := n2_; have GE107 := n3_; clear n0_ n1_ n2_ n3_; clear hb hbox hg) | ((with_reducible refine gate_dst (N := 2) rfl ?_); refine box_event ?hg (N := 2) ?hd (cs := #[.int .i64 0, .slice none 0 0]) (t := 40) ?hr ?_; (case hd => rfl); (case hg => rfl); (case hr => first | (go_simp; done) | (go_simp; rfl)); intro gb108 hg w4 hbox hb; have n0_ := Aside0.mk (blk_below (g := gb107) (o := .cells #[.int .i64 a0_0, .slice A0_1 l0_1.length c0_1] 40 (0, 0)) (by (with_reducible repeat (first | refine blk_drewN ?_ _ | refine blk_drew ?_ | refine blk_alloc ?_ _)); exact BK107.out) hb); have n1_ := Aside0.mk (below_step (by repeat (first | (with_reducible first | exact HB.out | apply below_alloc | apply pw_below_drewN | apply below_drew1 | refine below_set ?_ GE107.out) | exact HB.out)) hb); have n2_ := Aside0.mk (hbox); have n3_ := Aside0.mk ((by rw [hg]; exact (below_size (by repeat (first | (with_reducible first | exact HB.out | apply below_alloc | apply pw_below_drewN | apply below_drew1 | refine below_set ?_ GE107.out) | exact HB.out))) : w.heap.size ≤ gb108)); have n4_ := Aside0.mk ((by rw [hg]; exact (below_size (by repeat (first | (with_reducible first | exact HB.out | apply below_alloc | apply pw_below_drewN | apply below_drew1 | refine below_set ?_ GE107.out) | exact HB.out))) : w.heap.size ≤ gb108)); have n5_ := Aside0.mk ((by rw [hg]; exact Nat.ne_of_lt (blk_lt (g := gb107) (o := .cells #[.int .i64 a0_0, .slice A0_1 l0_1.length c0_1] 40 (0, 0)) (by (with_reducible repeat (first | refine blk_drewN ?_ _ | refine blk_drew ?_ | refine blk_alloc ?_ _)); exact BK107.out)) : gb107 ≠ gb108)); have n6_ := Aside0.mk ((by rw [hg]; exact Nat.ne_of_gt (blk_lt (g := gb107) (o := .cells #[.int .i64 a0_0, .slice A0_1 l0_1.length c0_1] 40 (0, 0)) (by (with_reducible repeat (first | refine blk_drewN ?_ _ | refine blk_drew ?_ | refine blk_alloc ?_ _)); exact BK107.out)) : gb108 ≠ gb107)); clear BK107; clear HB; have BK107 := n0_; have HB := n1_; have BK108 := n2_; have GW108 := n3_; have GE108 := n4_; have NB107_108 := n5_; have NB108_107 := n6_; clear n0_ n1_ n2_ n3_ n4_ n5_ n6_; clear hb hbox hg))
  have n0_ := Aside0.mk (blk_drew BK107.out)
  have n1_ := Aside0.mk (blk_drew BK108.out)
  have n2_ := Aside0.mk (below_drew1 HB.out)
  clear BK107
  clear BK108
  clear HB
  have BK107 := n0_
  have BK108 := n1_
  have HB := n2_
  clear n0_ n1_ n2_
  refine start_ (n := 7) (S := fun w' => w'.cell? ⟨gb107, 0, none⟩ = some (.int .i64 a0_0) ∧ w'.cell? ⟨gb107, 1, none⟩ = some (.slice A0_1 l0_1.length c0_1)) (ds := []) #[false, false, false, false, false, false, false] (by kernel_rfl) rfl rfl ⟨(blk_cell BK107.out 0).trans rfl, (blk_cell BK107.out 1).trans rfl⟩ (fun hHeld => ?_)
  generalize w4.drew = w5 at BK107 BK108 HB hHeld ⊢
  refine pure_ (i := 0) (N := some 3) (v := ?_) (a' := ?_) #[true, false, false, false, false, false, false] rfl rfl (by kernel_rfl) (fun _ _ _ h => h) (Or.inl ⟨by rfl, ?_⟩) ?_ ?_
  rotate_left
  · intro w'
    go_simp
    with_reducible rfl
  rotate_left
  · simp only [Act.put, List.setIfInBounds_toArray, List.set_cons_zero, List.set_cons_succ, i64_w, i32_w]
    rfl
  refine pure_ (i := 2) (N := some 5) (v := ?_) (a' := ?_) #[true, false, true, false, false, false, false] rfl rfl (by kernel_rfl) (fun _ _ _ h => h) (Or.inl ⟨by rfl, ?_⟩) ?_ ?_
  rotate_left
  · intro w'
    go_simp
    with_reducible rfl
  rotate_left
  · simp only [Act.put, List.setIfInBounds_toArray, List.set_cons_zero, List.set_cons_succ, i64_w, i32_w]
    rfl
  refine take_ (i := 1) (N := some 4) (v := ?_) (a' := ?_) #[true, true, true, false, false, false, false] rfl rfl (by kernel_rfl) (fun _ _ _ h => h) (Or.inl ⟨by rfl, ?_⟩) hHeld ?_ ?_
  rotate_left
  · rintro w' ⟨s0, s1⟩
    go_simp
    with_reducible rfl
  rotate_left
  · simp only [Act.put, List.setIfInBounds_toArray, List.set_cons_zero, List.set_cons_succ, i64_w, i32_w]
    rfl
  refine take_ (i := 3) (N := some 6) (v := ?_) (a' := ?_) #[true, true, true, true, false, false, false] rfl rfl (by kernel_rfl) (fun _ _ _ h => h) (Or.inl ⟨by rfl, ?_⟩) hHeld ?_ ?_
  rotate_left
  · rintro w' ⟨s0, s1⟩
    go_simp
    with_reducible rfl
  rotate_left
  · simp only [Act.put, List.setIfInBounds_toArray, List.set_cons_zero, List.set_cons_succ, i64_w, i32_w]
    rfl
  refine one_ (i := 4) (N := some 7) #[true, true, true, true, true, false, false] rfl rfl (by kernel_rfl) (by decide) (fun K hK => ?_)
  refine goes_ Try.func78 (by kernel_rfl) rfl #[.slice A0_1 l0_1.length c0_1] (by rfl) rfl rfl (by (try simp only [List.map_toArray, List.map_cons, List.map_nil]); first | done | rfl | (simp only [List.length_drop, List.length_take]; rfl)) ?_
  with_reducible refine (slices_Clone_byte_byte.calls _ _ l0_1 t109 _ ?side1 ?side2 A2.out).mono ?_
  (case side1 => repeat (first | exact (Kd.C_below HR0_1.out HB.out) | (with_reducible refine Kd.C_alloc ?_ _) | (with_reducible refine Kd.C_drewN ?_ _) | (with_reducible refine Kd.C_drew ?_)))
  (case side2 => exact HC0_1.out)
  rintro e w6 ⟨v110, rfl, ho0, hb⟩
  refine ⟨_, rfl, ?_⟩
  have n0_ := Aside0.mk (Kd.R_lower ho0 (below_size (by repeat (first | (with_reducible first | exact HB.out | apply below_alloc | apply pw_below_drewN | apply below_drew1 | refine below_set ?_ GE107.out | refine below_set ?_ GE108.out) | exact HB.out))))
  have n1_ := Aside0.mk (blk_below (g := gb107) (o := .cells #[.int .i64 a0_0, .slice A0_1 l0_1.length c0_1] 40 (0, 0)) (by (with_reducible repeat (first | refine blk_drewN ?_ _ | refine blk_drew ?_ | refine blk_alloc ?_ _)); exact BK107.out) hb)
  have n2_ := Aside0.mk (blk_below (g := gb108) (o := .cells #[.int .i64 0, .slice none 0 0] 40 (0, 0)) (by (with_reducible repeat (first | refine blk_drewN ?_ _ | refine blk_drew ?_ | refine blk_alloc ?_ _)); exact BK108.out) hb)
  have n3_ := Aside0.mk (below_step (by repeat (first | (with_reducible first | exact HB.out | apply below_alloc | apply pw_below_drewN | apply below_drew1 | refine below_set ?_ GE107.out | refine below_set ?_ GE108.out) | exact HB.out)) hb)
  clear BK107
  clear BK108
  clear HB
  have HO111 := n0_
  have BK107 := n1_
  have BK108 := n2_
  have HB := n3_
  clear n0_ n1_ n2_ n3_
  (try clear hb)
  (try clear hb2)
  (try clear hk)
  (try clear hi)
  (try clear ho0)
  obtain ⟨Ao7, co7, eo7⟩ := Kd.R_slice HO111.out
  (first | subst eo7 | (injection eo7 with f1_ f2_ f3_; have f4_ := f1_.symm; have f5_ := f3_.symm; clear f1_ f2_ f3_; subst f4_; subst f5_))
  refine hK.out _ _ ⟨(blk_cell BK107.out 0).trans rfl, (blk_cell BK107.out 1).trans rfl⟩ (fun hHeld => ?_)
  clear hK K
  refine norm_ (a' := ?_) ?_ ?_
  rotate_left
  · show Act.put _ (some 7) _ = _
    simp only [Act.put, List.setIfInBounds_toArray, List.set_cons_zero, List.set_cons_succ, i64_w, i32_w]
    rfl
  refine pure_ (i := 5) (N := some 8) (v := ?_) (a' := ?_) #[true, true, true, true, true, true, false] rfl rfl (by kernel_rfl) (fun _ _ _ h => h) (Or.inl ⟨by rfl, ?_⟩) ?_ ?_
  rotate_left
  · intro w'
    go_simp
    with_reducible rfl
  rotate_left
  · simp only [Act.put, List.setIfInBounds_toArray, List.set_cons_zero, List.set_cons_succ, i64_w, i32_w]
    rfl
  refine one_ (i := 6) (N := none) #[true, true, true, true, true, true, true] rfl rfl (by kernel_rfl) (by decide) (fun K hK => ?_)
  have hs8 : w6.cell? ⟨gb108, 0, none⟩ = some (.int .i64 0) := (blk_cell BK108.out 0).trans rfl
  have hfs8 := blk_frozen BK108.out 0
  have hns8_0 := NB107_108.out
  have hms8_0 := NB108_107.out
  have hs9 : w6.cell? ⟨gb108, 1, none⟩ = some (.slice none 0 0) := (blk_cell BK108.out 1).trans rfl
  have hfs9 := blk_frozen BK108.out 1
  have hns9_0 := NB107_108.out
  have hms9_0 := NB108_107.out
  refine skip_ (w1 := ?_) (by rfl) rfl ?_ ?_
  rotate_left
  · go_simp
    rfl
  refine hK.out _ _ ⟨((cell_far (p := ⟨gb108, _, none⟩) NB107_108.out _).trans (((cell_far (p := ⟨gb108, _, none⟩) NB107_108.out _).trans (hHeld.1)))), ((cell_far (p := ⟨gb108, _, none⟩) NB107_108.out _).trans (((cell_far (p := ⟨gb108, _, none⟩) NB107_108.out _).trans (hHeld.2))))⟩ (fun hHeld => ?_)
  clear hK K
  refine done_ (by kernel_rfl) ?_
  try go_wp2
  refine bodyPost_ret (results_cell_row rfl _ _ gb108 40 #[.int .i64 a0_0, .slice Ao7 t109.length co7] (0, 0) _ rfl (by (with_reducible repeat (first | refine blk_drewN ?_ _ | refine blk_drew ?_ | refine blk_alloc ?_ _)); refine blk_put (cs := #[.int .i64 a0_0, .slice none 0 0]) ?_ 1 _ rfl; (with_reducible repeat (first | refine blk_drewN ?_ _ | refine blk_drew ?_ | refine blk_alloc ?_ _)); refine blk_put (cs := #[.int .i64 0, .slice none 0 0]) ?_ 0 _ rfl; (with_reducible repeat (first | refine blk_drewN ?_ _ | refine blk_drew ?_ | refine blk_alloc ?_ _)); exact BK108.out) Try.underlying40 rfl (by kernel_rfl)) rfl ?_
  exact ⟨_, by first | rfl | (simp [errW_none, errW_some] <;> rfl) | (simp [*, errW_none, errW_some] <;> rfl), by (with_reducible repeat (first | apply Kd.R_alloc | apply Kd.R_drewN | apply Kd.R_drew)); exact Kd.R_mono (Kd.R_far (p := ⟨gb108, 1, none⟩) (Kd.R_far (p := ⟨gb108, 0, none⟩) (Kd.R_types HO111.out BK108.out (by decide)) (fun _ hk => hk.2) (.int .i64 a0_0)) (fun _ hk => hk.2) (.slice Ao7 t109.length co7)) (fun _ hk => trivial), by repeat (first | (with_reducible first | exact HB.out | apply below_alloc | apply pw_below_drewN | apply below_drew1 | refine below_set ?_ GE107.out | refine below_set ?_ GE108.out) | exact HB.out)⟩

/-! ### net_copied: function 59 -/
def net_copied.l0 : Nat → List (S40) → List (S40) → Int → Int → Option ((List (S40)))
  | 0, _, _, _, _ => none
  | k + 1, x3, x10, x11, x12 => if x12 < x11 then (if 0 ≤ x12 then (if x12 < (x10.length : Int) then ((net_own.f ((rd_T40 x10 x12).f0) ((rd_T40 x10 x12).f1)).bind fun bt114 => (if x3.length < 4398046511104 then (net_copied.l0 k (x3 ++ [(⟨bt114.1, bt114.2⟩ : S40)]) x10 x11 (wrap64 (x12 + 1))) else (none))) else (none)) else (none)) else (some x3)
def net_copied.f (k : Nat) (l0 : List (S40)) : Option ((List (S40))) := if l0.length < 4398046511104 then (net_copied.l0 k ([] : List (S40)) l0 (l0.length : Int) 0) else none
theorem net_copied.mono_l : ∀ k, (∀ y0 y1 y2 y3, LeO (net_copied.l0 k y0 y1 y2 y3) (net_copied.l0 (k + 1) y0 y1 y2 y3))
  | 0 => fun _ _ _ _ r h => by simp [net_copied.l0] at h
  | k + 1 => by
    have ih0 := net_copied.mono_l k
    · intro y0 y1 y2 y3
      unfold net_copied.l0
      repeat' first
      | (with_reducible exact ih0 _ _ _ _)
      | (with_reducible exact LeO.refl _)
      | (with_reducible exact LeO.none _)
      | (with_reducible refine LeO.ite ?_ ?_)
      | (with_reducible refine LeO.bind ?_ (fun _ => ?_))
      | exact ih0 _ _ _ _
      | exact LeO.none _
      | refine LeO.ite ?_ ?_
      | refine LeO.bind ?_ (fun _ => ?_)
theorem net_copied.mono : ∀ a0 k, LeO (net_copied.f k a0) (net_copied.f (k + 1) a0) := by
  intro a0 k
  have ih0 := net_copied.mono_l k
  unfold net_copied.f
  repeat' first
      | (with_reducible exact ih0 _ _ _ _)
      | (with_reducible exact LeO.refl _)
      | (with_reducible exact LeO.none _)
      | (with_reducible refine LeO.ite ?_ ?_)
      | (with_reducible refine LeO.bind ?_ (fun _ => ?_))
      | exact ih0 _ _ _ _
      | exact LeO.none _
      | refine LeO.ite ?_ ?_
      | refine LeO.bind ?_ (fun _ => ?_)
set_option maxHeartbeats 8000000 in
set_option maxRecDepth 100000 in
theorem net_copied.calls (k : Nat) (A0 : Option Addr) (c0 : Nat) (l0 : List (S40)) (r : List (S40)) (w : World) (hr0 : Kd.C k40 w A0 l0.length l0) (hc0 : l0.length ≤ c0) (h : net_copied.f k l0 = some r) :
    Calls Try.prog 59 #[.slice A0 l0.length c0] w fun e w' => ∃ v0_ : Value, e = .returned (v0_) ∧ Kd.S k40 40 w' w.heap.size (fun _ => True) v0_ r ∧ Below w.heap.size w w' := by
  have hu40 := Try.underlying40
  have HR0 := Aside0.mk hr0
  have HC0 := Aside0.mk hc0
  clear hr0 hc0
  have HB := Aside0.mk (Below.refl w.heap.size w)
  have H0 : (if l0.length < 4398046511104 then (net_copied.l0 k ([] : List (S40)) l0 (l0.length : Int) 0) else none) = some r := h
  clear h
  have hlen_ : l0.length < 4398046511104 := by
    by_cases hc_ : l0.length < 4398046511104
    · exact hc_
    · rw [if_neg hc_] at H0
      exact absurd H0 (by simp)
  have H : (net_copied.l0 k ([] : List (S40)) l0 (l0.length : Int) 0) = some r := by rw [if_pos hlen_] at H0; exact H0
  clear H0
  have hcap_ : wrap64 ((l0.length : Int) + 1) = ((l0.length + 1 : Nat) : Int) := by unfold wrap64; omega
  have HL := Aside0.mk hlen_
  have HCAP := Aside0.mk hcap_
  clear hlen_ hcap_
  have H' := Aside0.mk H
  clear H
  go_enter Try.func59, Try.ntmps59
  go_wp2_with ((with_reducible refine gate_make 33 rfl ?_); refine make_room rfl 33 40 _ _ rfl (l0.length + 1) 2 32 rfl (congrArg (Value.int .i64) HCAP.out) Try.underlying33 info40 (by have := HL.out; omega) (by have := HL.out; simp only [maxLen]; omega) ?_; intro w1 hown_ hgr_; have HO0 := Aside0.mk (S_empty (d := k40) hown_); have HB1 := Aside0.mk (pw_below_grown (Below.refl w.heap.size w) none (Nat.le_refl _) hgr_ (by simp)); clear hown_ hgr_ HB; have HB := HB1; clear HB1)
  go_loopg [3, 12] k (fun kq v3 v12 w' => ∃ (x3_1 : List (S40)) (x12_1 : Int), v12 = .int .i64 x12_1 ∧ Aside0 (net_copied.l0 kq x3_1 l0 (l0.length : Int) x12_1 = some r) ∧ Aside0 (kq ≤ k) ∧ Aside0 (Kd.S k40 40 w' w.heap.size (fun _ => True) v3 x3_1) ∧ Aside0 (Below w.heap.size w w'))
  case atStart => exact ⟨(([] : List (S40))), (0), (by first | rfl | (simp; done) | (simp [*]; done)), H', ⟨Nat.le_refl _⟩, ⟨by first | (with_reducible exact HO0.out) | exact Kd.S_drewN HO0.out _ | exact HO0.out | exact Kd.S_nil _ _ _ _ _ | exact Kd.N_nil _ _ _ _ _ | exact Kd.V_nil _ _ _ _ _ | exact Kd.Q_nil _ _ _ _ _ | exact Kd.R_nil _ _ _ _ _⟩, ⟨by repeat (first | (with_reducible first | exact HB.out | apply below_alloc | apply pw_below_drewN | apply below_drew1) | exact HB.out)⟩⟩
  case round =>
    clear H'
    obtain ⟨x3_1, x12_1, rfl, HA, HK1, HO_3, HB⟩ := hrel
    cases gk with
    | zero => exact absurd HA.out (by simp [net_copied.l0])
    | succ k1 =>
      have H := HA.out
      clear HA
      simp only [net_copied.l0] at H
      by_cases c2 : x12_1 < (l0.length : Int)
      · rw [if_pos c2] at H
        have c2b0 : decide (x12_1 < (l0.length : Int)) = true := decide_eq_true c2
        clear c2
        by_cases c3 : 0 ≤ x12_1
        · rw [if_pos c3] at H
          have c3b0 : decide (0 ≤ x12_1) = true := decide_eq_true c3
          clear c3
          by_cases c4 : x12_1 < (l0.length : Int)
          · rw [if_pos c4] at H
            have c4b0 : decide (x12_1 < (l0.length : Int)) = true := decide_eq_true c4
            clear c4
            replace H := Option.bind_eq_some_iff.mp H
            obtain ⟨⟨t114, t115⟩, A50, H⟩ := H
            replace H : (if x3_1.length < 4398046511104 then (net_copied.l0 k1 (x3_1 ++ [(⟨t114, t115⟩ : S40)]) l0 (l0.length : Int) (wrap64 (x12_1 + 1))) else (none)) = some r := H
            have A5 := Aside0.mk A50
            clear A50
            by_cases c6 : x3_1.length < 4398046511104
            · rw [if_pos c6] at H
              have LMc6 := Aside0.mk c6
              clear c6
              obtain ⟨y118, hy118⟩ : ∃ y_ : List (S40), y_ = (x3_1 ++ [(⟨t114, t115⟩ : S40)]) := ⟨_, rfl⟩
              replace H : (net_copied.l0 k1 y118 l0 (l0.length : Int) (wrap64 (x12_1 + 1))) = some r := by first | (rw [hy118]; with_reducible exact H) | (have H2_ := (Option.bind_some _ _).symm.trans H; rw [hy118]; with_reducible exact H2_) | (have H2_ := (Option.bind_some _ _).symm.trans H; with_reducible exact H2_) | with_reducible exact H | (rw [hy118]; exact H) | exact H
              have Ny118 := Aside0.mk hy118
              clear hy118
              have H' := Aside0.mk H
              clear H
              have p112 : 0 ≤ (x12_1 : Int) := of_decide_eq_true (by first | (with_reducible assumption) | assumption)
              have q112 : x12_1 < (l0.length : Int) := of_decide_eq_true (by first | (with_reducible assumption) | assumption)
              obtain ⟨ad112, A112_1, c112_1, e112, hx112_0, hx112_1, hl112_1, hi112_1⟩ := at_T40 HR0.out x12_1 p112 q112
              cases e112
              replace hx112_0 := (HB.out.cell (World.block_lt_of_cell? w _ hx112_0)).trans hx112_0
              replace hx112_1 := (HB.out.cell (World.block_lt_of_cell? w _ hx112_1)).trans hx112_1
              have HR112_1 := Aside0.mk hi112_1
              have HC112_1 := Aside0.mk hl112_1
              clear hi112_1 hl112_1
              replace p112 := eq_true p112; (try (have p112s := p112; rw [List.length_drop] at p112s)); (try (have p112t := p112; rw [List.length_take] at p112t))
              replace q112 := eq_true q112; (try (have q112s := q112; rw [List.length_drop] at q112s)); (try (have q112t := q112; rw [List.length_take] at q112t))
              go_wp2_with (first | ((with_reducible refine gate_dst (N := 5) rfl ?_); refine box_event ?hg (N := 5) ?hd (cs := #[.int .i64 0, .slice none 0 0]) (t := 40) ?hr ?_; (case hd => rfl); (case hg => rfl); (case hr => first | (go_simp; done) | (go_simp; rfl)); intro gb113 hg w7 hbox hb; have n0_ := Aside0.mk (Kd.S_below (Kd.S_elderB (by (with_reducible repeat (first | apply Kd.S_alloc | apply Kd.S_drewN | apply Kd.S_drew)); exact HO_3.out) gb113 (Nat.le_of_eq hg.symm)) hb); have n1_ := Aside0.mk (below_step (by repeat (first | (with_reducible first | exact HB.out | apply below_alloc | apply pw_below_drewN | apply below_drew1) | exact HB.out)) hb); have n2_ := Aside0.mk (hbox); have n3_ := Aside0.mk ((by rw [hg]; exact (below_size (by repeat (first | (with_reducible first | exact HB.out | apply below_alloc | apply pw_below_drewN | apply below_drew1) | exact HB.out))) : w.heap.size ≤ gb113)); have n4_ := Aside0.mk ((by rw [hg]; exact (below_size (by repeat (first | (with_reducible first | exact HB.out | apply below_alloc | apply pw_below_drewN | apply below_drew1) | exact HB.out))) : w.heap.size ≤ gb113)); clear HO_3; clear HB; have HO_3 := n0_; have HB := n1_; have BK113 := n2_; have GW113 := n3_; have GE113 := n4_; clear n0_ n1_ n2_ n3_ n4_; clear hb hbox hg; have hcz8_0 : w7.cell? ⟨gb113, 0, none⟩ = some (.int .i64 0) := (blk_cell BK113.out 0).trans rfl; have hcz8_1 : w7.cell? ⟨gb113, 1, none⟩ = some (.slice none 0 0) := (blk_cell BK113.out 1).trans rfl; have hfz8_0 := blk_frozen BK113.out 0; have hfz8_1 := blk_frozen BK113.out 1) | ((with_reducible refine gate_callee (f := 66) rfl ?_); refine goesL_ (some 18) rfl rfl Try.func66 (by kernel_rfl) rfl #[.agg #[.int .i64 ((rd_T40 l0 x12_1).f0), .slice A112_1 ((rd_T40 l0 x12_1).f1).length c112_1]] rfl (by (try simp only [List.map_toArray, List.map_cons, List.map_nil]); first | done | rfl | (simp only [List.length_drop, List.length_take]; rfl)) ?_; (with_reducible refine (net_own.calls ((rd_T40 l0 x12_1).f0) _ _ ((rd_T40 l0 x12_1).f1) t114 t115 _ ?side1 ?side2 A5.out).mono ?_); (case side1 => exact Kd.C_below HR112_1.out (by repeat (first | (with_reducible first | exact HB.out | apply below_alloc | apply pw_below_drewN | apply below_drew1 | refine below_set ?_ GE113.out) | exact HB.out))); (case side2 => exact HC112_1.out); rintro e w9 ⟨v116, rfl, ho0, hb⟩; refine ⟨_, rfl, ?_⟩; have n0_ := Aside0.mk (Kd.S_elder' (by (with_reducible repeat (first | apply Kd.S_alloc | apply Kd.S_drewN | apply Kd.S_drew)); exact (Kd.S_mono (Kd.S_far (p := ⟨gb113, 1, none⟩) (Kd.S_far (p := ⟨gb113, 0, none⟩) (Kd.S_mono HO_3.out (fun k_ hk => (⟨hk, hk.2⟩ : _ ∧ k_ ≠ gb113))) (fun _ hk => hk.2) (.int .i64 ((rd_T40 l0 x12_1).f0))) (fun _ hk => hk.2) (.slice A112_1 ((rd_T40 l0 x12_1).f1).length c112_1)) (fun _ h_ => h_.1))) (Kd.R_base ho0) hb); have n1_ := Aside0.mk (Kd.R_lower ho0 (below_size (by repeat (first | (with_reducible first | exact HB.out | apply below_alloc | apply pw_below_drewN | apply below_drew1 | refine below_set ?_ GE113.out) | exact HB.out)))); have n2_ := Aside0.mk (blk_below (g := gb113) (o := .cells #[.int .i64 ((rd_T40 l0 x12_1).f0), .slice A112_1 ((rd_T40 l0 x12_1).f1).length c112_1] 40 (0, 0)) (by (with_reducible repeat (first | refine blk_drewN ?_ _ | refine blk_drew ?_ | refine blk_alloc ?_ _)); refine blk_put (cs := #[.int .i64 ((rd_T40 l0 x12_1).f0), .slice none 0 0]) ?_ 1 _ rfl; (with_reducible repeat (first | refine blk_drewN ?_ _ | refine blk_drew ?_ | refine blk_alloc ?_ _)); refine blk_put (cs := #[.int .i64 0, .slice none 0 0]) ?_ 0 _ rfl; (with_reducible repeat (first | refine blk_drewN ?_ _ | refine blk_drew ?_ | refine blk_alloc ?_ _)); exact BK113.out) hb); have n3_ := Aside0.mk (below_step (by repeat (first | (with_reducible first | exact HB.out | apply below_alloc | apply pw_below_drewN | apply below_drew1 | refine below_set ?_ GE113.out) | exact HB.out)) hb); clear HO_3; clear BK113; clear HB; have HO_3 := n0_; have HO117 := n1_; have BK113 := n2_; have HB := n3_; clear n0_ n1_ n2_ n3_; (try clear hb); (try clear hb2); (try clear hk); (try clear hi); (try clear ho0); obtain ⟨Ao11, co11, eo11⟩ := Kd.R_slice HO117.out; subst eo11) | ((with_reducible refine gate_builtin (b := .append) (xs := #[.tmp 16, .tmp 19]) rfl ?_); at_builtin; refine Kd.S_append k40 (w0 := w) w.heap.size rfl (.tmp 16) (.tmp 19) 33 40 (.agg #[(.int .i64 0), (.slice none 0 0)]) 32 rfl Try.underlying33 info40 rfl (by decide) (by omega) u3 x3_1 (⟨t114, t115⟩ : S40) [.int .i64 t114, .slice Ao11 t115.length co11] (fun k_ => k_ ≠ gb113) (fun k_ => some k_ = (.slice Ao11 t115.length co11 : Value).ownBlock) rfl rfl ?aP (fun k_ hk_ => ((Kd.R_mono (ok' := fun k_ => ((fun k_ => k_ ≠ gb113)) k_ ∧ some k_ ≠ (u3 : Value).ownBlock) (Kd.R_types (Kd.R_apart' (HO117.out) (Kd.S_typed HO_3.out) (by decide)) BK113.out (by decide)) (fun k_ hk => ⟨hk.2, hk.1.2⟩))).1 k_ hk_.symm) ?aF ?aO ?aB ?aS ?aL ?_; (case aP => exact k40_mkM _ _ _ (⟨t114, t115⟩ : S40) (Kd.R_mono (Kd.R_tight rfl (Kd.R_mono (ok' := fun k_ => ((fun k_ => k_ ≠ gb113)) k_ ∧ some k_ ≠ (u3 : Value).ownBlock) (Kd.R_types (Kd.R_apart' (HO117.out) (Kd.S_typed HO_3.out) (by decide)) BK113.out (by decide)) (fun k_ hk => ⟨hk.2, hk.1.2⟩))) (fun _ h_ => h_))); (case aB => exact (by repeat (first | (with_reducible first | exact HB.out | apply below_alloc | apply pw_below_drewN | apply below_drew1 | refine below_set ?_ GE113.out) | exact HB.out))); (case aF => exact (fun k_ hk => Kd.freshB (g := gb113) (o := .cells #[.int .i64 ((rd_T40 l0 x12_1).f0), .slice A112_1 ((rd_T40 l0 x12_1).f1).length c112_1] 40 (0, 0)) (by (with_reducible repeat (first | refine blk_drewN ?_ _ | refine blk_drew ?_ | refine blk_alloc ?_ _)); exact BK113.out) k_ hk)); (case aO => exact (by (with_reducible repeat (first | apply Kd.S_alloc | apply Kd.S_drewN | apply Kd.S_drew)); exact Kd.S_mono HO_3.out (fun k_ hk => ⟨hk.1.2, fun e_ => hk.2 e_⟩))); (case aS => exact (below_size (by repeat (first | (with_reducible first | exact HB.out | apply below_alloc | apply pw_below_drewN | apply below_drew1 | refine below_set ?_ GE113.out) | exact HB.out)))); (case aL => have := LMc6.out; omega); intro v119 w10 ho hb hg hat; rw [← Ny118.out] at ho; have n0_ := Aside0.mk (blk_grown (g := gb113) (o := .cells #[.int .i64 ((rd_T40 l0 x12_1).f0), .slice A112_1 ((rd_T40 l0 x12_1).f1).length c112_1] 40 (0, 0)) (by (with_reducible repeat (first | refine blk_drewN ?_ _ | refine blk_drew ?_ | refine blk_alloc ?_ _)); exact BK113.out) hg (Kd.S_away HO_3.out (fun _ hk => hk.1.2))); have n1_ := Aside0.mk (hb); have n2_ := Aside0.mk (ho); clear BK113; clear HB; clear HO_3; clear HO117; have BK113 := n0_; have HB := n1_; have HO120 := n2_; clear n0_ n1_ n2_; clear ho hb hg hat))
              go_roundg k1
              case measure => have := HK1.out; omega
              case rel => exact ⟨(y118), (wrap64 (x12_1 + 1)), (by first | rfl | (simp; done) | (simp [*]; done)), H', ⟨by have := HK1.out; omega⟩, ⟨by (with_reducible repeat (first | apply Kd.S_alloc | apply Kd.S_drewN | apply Kd.S_drew)); exact Kd.S_mono HO120.out (fun _ hk => trivial)⟩, ⟨by repeat (first | (with_reducible first | exact HB.out | apply below_alloc | apply pw_below_drewN | apply below_drew1 | refine below_set ?_ GE113.out) | exact HB.out)⟩⟩
            · rw [if_neg c6] at H
              exact absurd H (by simp)
          · rw [if_neg c4] at H
            exact absurd H (by simp)
        · rw [if_neg c3] at H
          exact absurd H (by simp)
      · rw [if_neg c2] at H
        have c2b0 : decide (x12_1 < (l0.length : Int)) = false := decide_eq_false c2
        clear c2
        obtain rfl := Option.some.inj H
        go_wp2
        go_ret
        exact ⟨_, by first | rfl | (simp [errW_none, errW_some] <;> rfl) | (simp [*, errW_none, errW_some] <;> rfl), by (with_reducible repeat (first | apply Kd.S_alloc | apply Kd.S_drewN | apply Kd.S_drew)); exact HO_3.out, by repeat (first | (with_reducible first | exact HB.out | apply below_alloc | apply pw_below_drewN | apply below_drew1) | exact HB.out)⟩

/-! ### net_Send: function 22 -/
def net_Send.f (k : Nat) (l0 : List (S40)) (l1 : List (S40)) : Option ((List (S40)) × Int) := (net_copied.f k l0).bind fun t121 => (if 0 ≤ (mn (mx (wrap64 (512 - (l0.length : Int))) 0) (l1.length : Int)) then (if (mn (mx (wrap64 (512 - (l0.length : Int))) 0) (l1.length : Int)) ≤ (l1.length : Int) then ((net_copied.f k (l1.take ((mn (mx (wrap64 (512 - (l0.length : Int))) 0) (l1.length : Int)) : Int).toNat)).bind fun t128 => (if t121.length + t128.length < 4398046511104 then (some ((t121 ++ t128), wrap64 ((l1.length : Int) - (mn (mx (wrap64 (512 - (l0.length : Int))) 0) (l1.length : Int))))) else (none))) else (none)) else (none))
theorem net_Send.mono : ∀ a0 a1 k, LeO (net_Send.f k a0 a1) (net_Send.f (k + 1) a0 a1) := by
  intro a0 a1 k
  unfold net_Send.f
  repeat' first
      | (with_reducible exact net_copied.mono _ _)
      | (with_reducible exact LeO.refl _)
      | (with_reducible exact LeO.none _)
      | (with_reducible refine LeO.ite ?_ ?_)
      | (with_reducible refine LeO.bind ?_ (fun _ => ?_))
      | exact net_copied.mono _ _
      | exact LeO.none _
      | refine LeO.ite ?_ ?_
      | refine LeO.bind ?_ (fun _ => ?_)
def net_Send.T2 : Bool × List (List Nat × List Nat) := (true, [([], []), ([0], [0]), ([], []), ([], []), ([2, 3], [2, 3]), ([4, 1], [4]), ([1, 5, 5], [1, 5]), ([], []), ([7], [7]), ([], []), ([8, 9], [8, 9]), ([6, 6, 0, 1, 2, 3, 4, 5, 6], [6]), ([10, 11, 0, 1, 2, 3, 4, 5, 6, 7, 8, 9, 10, 11], [10])])
def net_Send.B2 : List Nat := [0, 1, 0, 0, 12, 31, 63, 0, 128, 0, 896, 127, 4095]
theorem net_Send.tab2 : rtab .any (opsOf Try.f22 2) = net_Send.T2 := by kernel_rfl
theorem net_Send.bits2 : waitsOk net_Send.T2.2 net_Send.B2 = true := by kernel_rfl
set_option maxHeartbeats 8000000 in
set_option maxRecDepth 100000 in
theorem net_Send.calls (k : Nat) (A0 : Option Addr) (c0 : Nat) (l0 : List (S40)) (A1 : Option Addr) (c1 : Nat) (l1 : List (S40)) (r1 : List (S40)) (r2 : Int) (w : World) (hr0 : Kd.C k40 w A0 l0.length l0) (hc0 : l0.length ≤ c0) (hr1 : Kd.C k40 w A1 l1.length l1) (hc1 : l1.length ≤ c1) (h : net_Send.f k l0 l1 = some (r1, r2)) :
    Calls Try.prog 22 #[.slice A0 l0.length c0, .slice A1 l1.length c1] w fun e w' => ∃ v0_ : Value, e = .returned (.tuple #[v0_, .int .i64 r2]) ∧ Kd.N k40 40 w' w.heap.size (fun k_ => (w.heap.size ≤ k_)) v0_ r1 ∧ Below w.heap.size w w' := by
  have HR0 := Aside0.mk hr0
  have HC0 := Aside0.mk hc0
  clear hr0 hc0
  have HR1 := Aside0.mk hr1
  have HC1 := Aside0.mk hc1
  clear hr1 hc1
  have HB := Aside0.mk (Below.refl w.heap.size w)
  have H : ((net_copied.f k l0).bind fun t121 => (if 0 ≤ (mn (mx (wrap64 (512 - (l0.length : Int))) 0) (l1.length : Int)) then (if (mn (mx (wrap64 (512 - (l0.length : Int))) 0) (l1.length : Int)) ≤ (l1.length : Int) then ((net_copied.f k (l1.take ((mn (mx (wrap64 (512 - (l0.length : Int))) 0) (l1.length : Int)) : Int).toNat)).bind fun t128 => (if t121.length + t128.length < 4398046511104 then (some ((t121 ++ t128), wrap64 ((l1.length : Int) - (mn (mx (wrap64 (512 - (l0.length : Int))) 0) (l1.length : Int))))) else (none))) else (none)) else (none))) = some (r1, r2) := h
  clear h
  obtain ⟨ji3, hji3⟩ : ∃ j_ : Int, (mx (wrap64 (512 - (l0.length : Int))) 0) = j_ := ⟨_, rfl⟩
  replace H : ((net_copied.f k l0).bind fun t121 => (if 0 ≤ (mn (ji3) (l1.length : Int)) then (if (mn (ji3) (l1.length : Int)) ≤ (l1.length : Int) then ((net_copied.f k (l1.take ((mn (ji3) (l1.length : Int)) : Int).toNat)).bind fun t128 => (if t121.length + t128.length < 4398046511104 then (some ((t121 ++ t128), wrap64 ((l1.length : Int) - (mn (ji3) (l1.length : Int))))) else (none))) else (none)) else (none))) = some (r1, r2) := by first | (rw [hji3] at H; exact H) | (simp only [hji3] at H ⊢; exact H)
  (try (have hji3l : 0 ≤ ji3 := by (rw [← hji3]; unfold mx; (repeat' split) <;> omega)))
  (try (have hji3m : 0 ≤ ji3 := by omega))
  have hji3_ : (if (wrap64 (512 - (l0.length : Int))) < 0 then 0 else (wrap64 (512 - (l0.length : Int)))) = ji3 := hji3
  obtain ⟨ji4, hji4⟩ : ∃ j_ : Int, (mn (ji3) (l1.length : Int)) = j_ := ⟨_, rfl⟩
  replace H : ((net_copied.f k l0).bind fun t121 => (if 0 ≤ (ji4) then (if (ji4) ≤ (l1.length : Int) then ((net_copied.f k (l1.take ((ji4) : Int).toNat)).bind fun t128 => (if t121.length + t128.length < 4398046511104 then (some ((t121 ++ t128), wrap64 ((l1.length : Int) - (ji4)))) else (none))) else (none)) else (none))) = some (r1, r2) := by first | (rw [hji4] at H; exact H) | (simp only [hji4] at H ⊢; exact H)
  have hji4_ : (if (l1.length : Int) < (ji3) then (l1.length : Int) else (ji3)) = ji4 := hji4
  replace H := Option.bind_eq_some_iff.mp H
  obtain ⟨t121, A50, H⟩ := H
  replace H : (if 0 ≤ (ji4) then (if (ji4) ≤ (l1.length : Int) then ((net_copied.f k (l1.take ((ji4) : Int).toNat)).bind fun t128 => (if t121.length + t128.length < 4398046511104 then (some ((t121 ++ t128), wrap64 ((l1.length : Int) - (ji4)))) else (none))) else (none)) else (none)) = some (r1, r2) := H
  have A5 := Aside0.mk A50
  clear A50
  by_cases c6 : 0 ≤ (ji4)
  · rw [if_pos c6] at H
    have c6b0 := eq_true c6
    have c6b1 : decide (0 ≤ (ji4)) = true := decide_eq_true c6
    clear c6
    by_cases c7 : (ji4) ≤ (l1.length : Int)
    · rw [if_pos c7] at H
      have c7b0 := eq_true c7
      have c7b1 : decide ((ji4) ≤ (l1.length : Int)) = true := decide_eq_true c7
      clear c7
      obtain ⟨y124, hy124⟩ : ∃ y_ : List (S40), y_ = (l1.take ((ji4) : Int).toNat) := ⟨_, rfl⟩
      replace H : ((net_copied.f k y124).bind fun t128 => (if t121.length + t128.length < 4398046511104 then (some ((t121 ++ t128), wrap64 ((l1.length : Int) - (ji4)))) else (none))) = some (r1, r2) := by first | (rw [hy124]; with_reducible exact H) | (have H2_ := (Option.bind_some _ _).symm.trans H; rw [hy124]; with_reducible exact H2_) | (have H2_ := (Option.bind_some _ _).symm.trans H; with_reducible exact H2_) | with_reducible exact H | (rw [hy124]; exact H) | exact H
      have Ny124 := Aside0.mk hy124
      clear hy124
      replace H := Option.bind_eq_some_iff.mp H
      obtain ⟨t128, A80, H⟩ := H
      replace H : (if t121.length + t128.length < 4398046511104 then (some ((t121 ++ t128), wrap64 ((l1.length : Int) - (ji4)))) else (none)) = some (r1, r2) := H
      have A8 := Aside0.mk A80
      clear A80
      by_cases c9 : t121.length + t128.length < 4398046511104
      · rw [if_pos c9] at H
        have LMc9 := Aside0.mk c9
        clear c9
        obtain ⟨y131, hy131⟩ : ∃ y_ : List (S40), y_ = (t121 ++ t128) := ⟨_, rfl⟩
        replace H : (some (y131, wrap64 ((l1.length : Int) - (ji4)))) = some (r1, r2) := by first | (rw [hy131]; with_reducible exact H) | (have H2_ := (Option.bind_some _ _).symm.trans H; rw [hy131]; with_reducible exact H2_) | (have H2_ := (Option.bind_some _ _).symm.trans H; with_reducible exact H2_) | with_reducible exact H | (rw [hy131]; exact H) | exact H
        have Ny131 := Aside0.mk hy131
        clear hy131
        simp only [Option.some.injEq, Prod.mk.injEq] at H
        obtain ⟨rfl, rfl⟩ := H
        go_enter Try.func22, Try.ntmps22
        try go_wp2
        have n0_ := Aside0.mk (below_drew1 HB.out)
        clear HB
        have HB := n0_
        clear n0_
        have q11 : ((ji4) : Int) ≤ ((l1.length : Int) : Int) := of_decide_eq_true (by first | (with_reducible assumption) | assumption)
        obtain ⟨i011, hi011, _, hsz11, _⟩ := info_parts info40
        have hroom11 : l1.length ≤ c1 := HC1.out
        have hC11 : Kd.C k40 _ A1 l1.length l1 := HR1.out
        have hcut11 := cut_to (P := Try.prog) 33 40 .i64 Try.underlying33 hi011 A1 l1.length c1 (ji4) (of_decide_eq_true (by first | (with_reducible assumption) | assumption)) q11 hroom11
        have hr11 := Kd.C_take (m := ((ji4) : Int).toNat) hC11 (by omega)
        have hy11 : y124.length = ((ji4) : Int).toNat := (by rw [Ny124.out, List.length_take]; omega)
        rw [← Ny124.out] at hr11
        rw [← hy11] at hcut11
        have HR127 := Aside0.mk hr11
        have HC127 := Aside0.mk (show y124.length ≤ c1 from by omega)
        clear hr11 hC11 hroom11 hi011 hsz11
        have KY11 := Aside0.mk hy11
        clear hy11
        replace q11 := eq_true q11; (try (have q11s := q11; rw [List.length_drop] at q11s)); (try (have q11t := q11; rw [List.length_take] at q11t))
        refine start_ (n := 13) (S := fun w' => True) (ds := []) #[false, false, false, false, false, false, false, false, false, false, false, false, false] (by kernel_rfl) rfl rfl trivial (fun hHeld => ?_); refine with_tabW net_Send.tab2 net_Send.bits2 (fun HT_ HW_ => ?_)
        generalize w.drew = w10 at HB HR127 hHeld ⊢
        refine pure_ (i := 0) (N := some 14) (v := ?_) (a' := ?_) #[true, false, false, false, false, false, false, false, false, false, false, false, false] rfl rfl (any_of HT_.out (by kernel_rfl)) (fun _ _ _ h => h) (Or.inl ⟨by rfl, ?_⟩) ?_ ?_
        rotate_left
        · intro w'
          go_simp
          with_reducible rfl
        rotate_left
        · simp only [Act.put, List.setIfInBounds_toArray, List.set_cons_zero, List.set_cons_succ, i64_w, i32_w]
          rfl
        refine pure_ (i := 2) (N := some 16) (v := ?_) (a' := ?_) #[true, false, true, false, false, false, false, false, false, false, false, false, false] rfl rfl (any_of HT_.out (by kernel_rfl)) (fun _ _ _ h => h) (Or.inl ⟨by rfl, ?_⟩) ?_ ?_
        rotate_left
        · intro w'
          go_simp
          with_reducible rfl
        rotate_left
        · simp only [Act.put, List.setIfInBounds_toArray, List.set_cons_zero, List.set_cons_succ, i64_w, i32_w]
          rfl
        refine pure_ (i := 3) (N := some 17) (v := ?_) (a' := ?_) #[true, false, true, true, false, false, false, false, false, false, false, false, false] rfl rfl (any_of HT_.out (by kernel_rfl)) (fun _ _ _ h => h) (Or.inl ⟨by rfl, ?_⟩) ?_ ?_
        rotate_left
        · intro w'
          go_simp
          with_reducible rfl
        rotate_left
        · simp only [Act.put, List.setIfInBounds_toArray, List.set_cons_zero, List.set_cons_succ, i64_w, i32_w]
          rfl
        refine pure_ (i := 4) (N := some 18) (v := ?_) (a' := ?_) #[true, false, true, true, true, false, false, false, false, false, false, false, false] rfl rfl (any_of HT_.out (by kernel_rfl)) (fun _ _ _ h => h) (Or.inl ⟨by rfl, ?_⟩) ?_ ?_
        rotate_left
        · intro w'
          go_simp
          with_reducible rfl
        rotate_left
        · simp only [Act.put, List.setIfInBounds_toArray, List.set_cons_zero, List.set_cons_succ, i64_w, i32_w]
          rfl
        refine pure_ (i := 7) (N := some 21) (v := ?_) (a' := ?_) #[true, false, true, true, true, false, false, true, false, false, false, false, false] rfl rfl (any_of HT_.out (by kernel_rfl)) (fun _ _ _ h => h) (Or.inl ⟨by rfl, ?_⟩) ?_ ?_
        rotate_left
        · intro w'
          go_simp
          with_reducible rfl
        rotate_left
        · simp only [Act.put, List.setIfInBounds_toArray, List.set_cons_zero, List.set_cons_succ, i64_w, i32_w]
          rfl
        refine pure_ (i := 8) (N := some 22) (v := ?_) (a' := ?_) #[true, false, true, true, true, false, false, true, true, false, false, false, false] rfl rfl (any_of HT_.out (by kernel_rfl)) (fun _ _ _ h => h) (Or.inl ⟨by rfl, ?_⟩) ?_ ?_
        rotate_left
        · intro w'
          go_simp
          with_reducible rfl
        rotate_left
        · simp only [Act.put, List.setIfInBounds_toArray, List.set_cons_zero, List.set_cons_succ, i64_w, i32_w]
          rfl
        refine pure_ (i := 9) (N := some 23) (v := ?_) (a' := ?_) #[true, false, true, true, true, false, false, true, true, true, false, false, false] rfl rfl (any_of HT_.out (by kernel_rfl)) (fun _ _ _ h => h) (Or.inl ⟨by rfl, ?_⟩) ?_ ?_
        rotate_left
        · intro w'
          go_simp
          with_reducible rfl
        rotate_left
        · simp only [Act.put, List.setIfInBounds_toArray, List.set_cons_zero, List.set_cons_succ, i64_w, i32_w]
          rfl
        refine pure_ (i := 10) (N := some 24) (v := ?_) (a' := ?_) #[true, false, true, true, true, false, false, true, true, true, true, false, false] rfl rfl (any_of HT_.out (by kernel_rfl)) (fun _ _ _ h => h) (Or.inl ⟨by rfl, ?_⟩) ?_ ?_
        rotate_left
        · intro w'
          go_simp
          with_reducible rfl
        rotate_left
        · simp only [Act.put, List.setIfInBounds_toArray, List.set_cons_zero, List.set_cons_succ, i64_w, i32_w]
          rfl
        refine one_ (i := 1) (N := some 15) #[true, true, true, true, true, false, false, true, true, true, true, false, false] rfl rfl (one_of HT_.out (by kernel_rfl)) (by decide) (fun K hK => ?_)
        refine goes_ Try.func59 (by kernel_rfl) rfl #[.slice A0 l0.length c0] (by rfl) rfl rfl (by (try simp only [List.map_toArray, List.map_cons, List.map_nil]); first | done | rfl | (simp only [List.length_drop, List.length_take]; rfl)) ?_
        with_reducible refine (net_copied.calls k _ _ l0 t121 _ ?side1 ?side2 A5.out).mono ?_
        (case side1 => repeat (first | exact (Kd.C_below HR0.out HB.out) | (with_reducible refine Kd.C_alloc ?_ _) | (with_reducible refine Kd.C_drewN ?_ _) | (with_reducible refine Kd.C_drew ?_)))
        (case side2 => exact HC0.out)
        rintro e w12 ⟨v122, rfl, ho0, hb⟩
        refine ⟨_, rfl, ?_⟩
        have n0_ := Aside0.mk (Kd.N_lower (Kd.N_mono (ok' := fun k_ => (w.heap.size ≤ k_)) (Kd.S_N (Kd.S_bound ho0)) (fun k_ hk_ => (Nat.le_trans (below_size (by repeat (first | (with_reducible first | exact HB.out | apply below_alloc | apply pw_below_drewN | apply below_drew1) | exact HB.out))) hk_.2.1))) (below_size (by repeat (first | (with_reducible first | exact HB.out | apply below_alloc | apply pw_below_drewN | apply below_drew1) | exact HB.out))))
        have n1_ := Aside0.mk (below_step (by repeat (first | (with_reducible first | exact HB.out | apply below_alloc | apply pw_below_drewN | apply below_drew1) | exact HB.out)) hb)
        clear HB
        have HO123 := n0_
        have HB := n1_
        clear n0_ n1_
        (try clear hb)
        (try clear hb2)
        (try clear hk)
        (try clear hi)
        (try clear ho0)
        refine hK.out _ _ trivial (fun hHeld => ?_)
        clear hK K
        refine norm_ (a' := ?_) ?_ ?_
        rotate_left
        · show Act.put _ (some 15) _ = _
          simp only [Act.put, List.setIfInBounds_toArray, List.set_cons_zero, List.set_cons_succ, i64_w, i32_w]
          rfl
        refine one_ (i := 5) (N := some 19) #[true, true, true, true, true, true, false, true, true, true, true, false, false] rfl rfl (one_of HT_.out (by kernel_rfl)) (by decide) (fun K hK => ?_)
        refine goes_ Try.func59 (by kernel_rfl) rfl #[.slice A1 y124.length c1] (by rfl) rfl rfl (by (try simp only [List.map_toArray, List.map_cons, List.map_nil]); first | done | rfl | (simp only [List.length_drop, List.length_take]; rfl)) ?_
        with_reducible refine (net_copied.calls k _ _ y124 t128 _ ?side1 ?side2 A8.out).mono ?_
        (case side1 => repeat (first | exact (Kd.C_below HR127.out HB.out) | (with_reducible refine Kd.C_alloc ?_ _) | (with_reducible refine Kd.C_drewN ?_ _) | (with_reducible refine Kd.C_drew ?_)))
        (case side2 => exact HC127.out)
        rintro e w13 ⟨v129, rfl, ho0, hb⟩
        refine ⟨_, rfl, ?_⟩
        have n0_ := Aside0.mk (Kd.N_elder' (by (with_reducible repeat (first | apply Kd.N_alloc | apply Kd.N_drewN | apply Kd.N_drew)); exact HO123.out) (by first | exact Kd.N_base ho0 | exact Kd.S_base ho0) hb)
        have n1_ := Aside0.mk (Kd.N_lower (Kd.N_mono (ok' := fun k_ => (w.heap.size ≤ k_) ∧ some k_ ≠ (v122 : Value).ownBlock) (Kd.S_N (Kd.S_bound ho0)) (fun k_ hk_ => ⟨(Nat.le_trans (below_size (by repeat (first | (with_reducible first | exact HB.out | apply below_alloc | apply pw_below_drewN | apply below_drew1) | exact HB.out))) hk_.2.1), (Kd.fresh' (Kd.N_lt (by (with_reducible repeat (first | apply Kd.N_alloc | apply Kd.N_drewN | apply Kd.N_drew)); exact HO123.out)) k_ hk_.2.1)⟩)) (below_size (by repeat (first | (with_reducible first | exact HB.out | apply below_alloc | apply pw_below_drewN | apply below_drew1) | exact HB.out))))
        have n2_ := Aside0.mk (below_step (by repeat (first | (with_reducible first | exact HB.out | apply below_alloc | apply pw_below_drewN | apply below_drew1) | exact HB.out)) hb)
        clear HO123
        clear HB
        have HO123 := n0_
        have HO130 := n1_
        have HB := n2_
        clear n0_ n1_ n2_
        (try clear hb)
        (try clear hb2)
        (try clear hk)
        (try clear hi)
        (try clear ho0)
        obtain ⟨Ao15, co15, eo15⟩ := Kd.N_slice HO130.out
        (first | subst eo15 | (injection eo15 with f1_ f2_ f3_; have f4_ := f1_.symm; have f5_ := f3_.symm; clear f1_ f2_ f3_; subst f4_; subst f5_))
        refine hK.out _ _ trivial (fun hHeld => ?_)
        clear hK K
        refine norm_ (a' := ?_) ?_ ?_
        rotate_left
        · show Act.put _ (some 19) _ = _
          simp only [Act.put, List.setIfInBounds_toArray, List.set_cons_zero, List.set_cons_succ, i64_w, i32_w]
          rfl
        refine one_ (i := 6) (N := some 20) #[true, true, true, true, true, true, true, true, true, true, true, false, false] rfl rfl (one_of HT_.out (by kernel_rfl)) (by decide) (fun K hK => ?_)
        refine Kd.N_append_rows_step k40 (w0 := w) w.heap.size (by rfl) (.tmp 15) (.tmp 19) 33 40 (.agg #[(.int .i64 0), (.slice none 0 0)]) 32 rfl Try.underlying33 info40 rfl (by decide) (by omega) v122 t121 t128 _ _ _ (fun k_ => (w.heap.size ≤ k_)) (fun k_ => ((fun k_ => (w.heap.size ≤ k_))) k_ ∧ some k_ ≠ (v122 : Value).ownBlock) rfl rfl ?aO ?aR (fun _ hk => hk) ?aF ?aB ?aS ?aL ?_
        (case aR => exact (by skip; exact Kd.N_F (Kd.N_mono (ok' := (fun k_ => ((fun k_ => (w.heap.size ≤ k_))) k_ ∧ some k_ ≠ (v122 : Value).ownBlock)) (HO130.out) (fun k_ hk => ⟨hk.1, hk.2⟩))))
        (case aB => exact (by repeat (first | (with_reducible first | exact HB.out | apply below_alloc | apply pw_below_drewN | apply below_drew1) | exact HB.out)))
        (case aF => exact (fun k_ hk => (Nat.le_trans (below_size (by repeat (first | (with_reducible first | exact HB.out | apply below_alloc | apply pw_below_drewN | apply below_drew1) | exact HB.out))) hk)))
        (case aO => exact (by (with_reducible repeat (first | apply Kd.N_alloc | apply Kd.N_drewN | apply Kd.N_drew)); exact Kd.N_mono HO123.out (fun _ hk => hk.1)))
        (case aS => exact (below_size (by repeat (first | (with_reducible first | exact HB.out | apply below_alloc | apply pw_below_drewN | apply below_drew1) | exact HB.out))))
        (case aL => have := LMc9.out; omega)
        intro v132 w14 ho hb hg hat
        rw [← Ny131.out] at ho
        have n0_ := Aside0.mk (Kd.N_afterv (ok := (fun k_ => (w.heap.size ≤ k_))) (by (with_reducible repeat (first | apply Kd.N_alloc | apply Kd.N_drewN | apply Kd.N_drew)); exact HO130.out) hg hat)
        have n1_ := Aside0.mk (hb)
        have n2_ := Aside0.mk (ho)
        clear HO130
        clear HB
        clear HO123
        have HO130 := n0_
        have HB := n1_
        have HO133 := n2_
        clear n0_ n1_ n2_
        clear ho hb hg hat
        refine hK.out _ _ trivial (fun hHeld => ?_)
        clear hK K
        refine norm_ (a' := ?_) ?_ ?_
        rotate_left
        · show Act.put _ (some 20) _ = _
          simp only [Act.put, List.setIfInBounds_toArray, List.set_cons_zero, List.set_cons_succ, i64_w, i32_w]
          rfl
        refine pure_ (i := 11) (N := some 4) (v := ?_) (a' := ?_) #[true, true, true, true, true, true, true, true, true, true, true, true, false] rfl rfl (any_of HT_.out (by kernel_rfl)) (fun _ _ _ h => h) (Or.inl ⟨by rfl, ?_⟩) ?_ ?_
        rotate_left
        · intro w'
          go_simp
          with_reducible rfl
        rotate_left
        · simp only [Act.put, List.setIfInBounds_toArray, List.set_cons_zero, List.set_cons_succ, i64_w, i32_w]
          rfl
        refine pure_ (i := 12) (N := some 5) (v := ?_) (a' := ?_) #[true, true, true, true, true, true, true, true, true, true, true, true, true] rfl rfl (any_of HT_.out (by kernel_rfl)) (fun _ _ _ h => h) (Or.inl ⟨by rfl, ?_⟩) ?_ ?_
        rotate_left
        · intro w'
          go_simp
          with_reducible rfl
        rotate_left
        · simp only [Act.put, List.setIfInBounds_toArray, List.set_cons_zero, List.set_cons_succ, i64_w, i32_w]
          rfl
        refine done_ (done_of HT_.out (by kernel_rfl)) ?_
        try go_wp2
        go_ret2
        exact ⟨_, by first | rfl | (simp [errW_none, errW_some] <;> rfl) | (simp only [← hji3, ← hji4]; first | rfl | (simp [errW_none, errW_some] <;> rfl)) | (simp [*, errW_none, errW_some] <;> rfl), by (with_reducible repeat (first | apply Kd.N_alloc | apply Kd.N_drewN | apply Kd.N_drew)); exact HO133.out, by repeat (first | (with_reducible first | exact HB.out | apply below_alloc | apply pw_below_drewN | apply below_drew1) | exact HB.out)⟩
      · rw [if_neg c9] at H
        exact absurd H (by simp)
    · rw [if_neg c7] at H
      exact absurd H (by simp)
  · rw [if_neg c6] at H
    exact absurd H (by simp)

/-! ### slices_IndexFunc_int_int: function 80 -/
def slices_IndexFunc_int_int.l0 : Nat → List Int → Int → Int → Int → Option (Int)
  | 0, _, _, _, _ => none
  | k + 1, x0, x1, x7, x8 => if x8 < x7 then (if 0 ≤ x8 then (if x8 < (x0.length : Int) then (if (rd x0 x8) < 0 then (some x8) else (if (rd x0 x8) ≥ x1 then (some x8) else (slices_IndexFunc_int_int.l0 k x0 x1 x7 (wrap64 (x8 + 1))))) else (none)) else (none)) else (some (-1))
def slices_IndexFunc_int_int.f (k : Nat) (l0 : List Int) (a1 : Int) : Option (Int) := slices_IndexFunc_int_int.l0 k l0 a1 (l0.length : Int) 0
theorem slices_IndexFunc_int_int.mono_l : ∀ k, (∀ y0 y1 y2 y3, LeO (slices_IndexFunc_int_int.l0 k y0 y1 y2 y3) (slices_IndexFunc_int_int.l0 (k + 1) y0 y1 y2 y3))
  | 0 => fun _ _ _ _ r h => by simp [slices_IndexFunc_int_int.l0] at h
  | k + 1 => by
    have ih0 := slices_IndexFunc_int_int.mono_l k
    · intro y0 y1 y2 y3
      unfold slices_IndexFunc_int_int.l0
      repeat' first
      | (with_reducible exact ih0 _ _ _ _)
      | (with_reducible exact LeO.refl _)
      | (with_reducible exact LeO.none _)
      | (with_reducible refine LeO.ite ?_ ?_)
      | (with_reducible refine LeO.bind ?_ (fun _ => ?_))
      | exact ih0 _ _ _ _
      | exact LeO.none _
      | refine LeO.ite ?_ ?_
      | refine LeO.bind ?_ (fun _ => ?_)
theorem slices_IndexFunc_int_int.mono : ∀ a0 a1 k, LeO (slices_IndexFunc_int_int.f k a0 a1) (slices_IndexFunc_int_int.f (k + 1) a0 a1) := by
  intro a0 a1 k
  have ih0 := slices_IndexFunc_int_int.mono_l k
  unfold slices_IndexFunc_int_int.f
  repeat' first
      | (with_reducible exact ih0 _ _ _ _)
      | (with_reducible exact LeO.refl _)
      | (with_reducible exact LeO.none _)
      | (with_reducible refine LeO.ite ?_ ?_)
      | (with_reducible refine LeO.bind ?_ (fun _ => ?_))
      | exact ih0 _ _ _ _
      | exact LeO.none _
      | refine LeO.ite ?_ ?_
      | refine LeO.bind ?_ (fun _ => ?_)
set_option maxHeartbeats 8000000 in
set_option maxRecDepth 100000 in
theorem slices_IndexFunc_int_int.calls (k : Nat) (A0 : Option Addr) (c0 : Nat) (l0 : List Int) (a1 : Int) (p0 : Addr) (A2 : Option Addr) (n2 c2 : Nat) (r : Int) (w : World) (hr0 : Kd.C (Kd.int .i64) w A0 l0.length l0) (hc0 : l0.length ≤ c0) (hp : w.cell? p0 = some (.slice A2 n2 c2)) (ha : a1 = (n2 : Int)) (h : slices_IndexFunc_int_int.f k l0 a1 = some r) :
    Calls Try.prog 80 #[.slice A0 l0.length c0, .func (.func 77) #[] #[.pointer (some p0)]] w fun e w' => e = .returned (.int .i64 r) ∧ Drawn0 w w' := by
  have HR0 := Aside0.mk hr0
  have HC0 := Aside0.mk hc0
  have HP := Aside0.mk hp
  have HA1 := Aside0.mk ha
  clear hr0 hc0 hp ha
  have H : (slices_IndexFunc_int_int.l0 k l0 a1 (l0.length : Int) 0) = some r := h
  clear h
  have H' := Aside0.mk H
  clear H
  go_enter Try.func80, Try.ntmps80
  go_wp2
  go_loopg [8] k (fun kq v8 w' => ∃ (x8_1 : Int), v8 = .int .i64 x8_1 ∧ Aside0 (slices_IndexFunc_int_int.l0 kq l0 a1 (l0.length : Int) x8_1 = some r) ∧ Aside0 (kq ≤ k) ∧ Drawn0 w w')
  case atStart => exact ⟨(0), (by first | rfl | (simp; done) | (simp [*]; done)), H', ⟨Nat.le_refl _⟩, by repeat (first | exact Drawn0.refl _ | apply Drawn0.step)⟩
  case round =>
    clear H'
    try clear p2
    obtain ⟨x8_1, rfl, HA, HK1, ⟨m1, rfl⟩⟩ := hrel
    cases gk with
    | zero => exact absurd HA.out (by simp [slices_IndexFunc_int_int.l0])
    | succ k1 =>
      have H := HA.out
      clear HA
      simp only [slices_IndexFunc_int_int.l0] at H
      by_cases c3 : x8_1 < (l0.length : Int)
      · rw [if_pos c3] at H
        have c3b0 : decide (x8_1 < (l0.length : Int)) = true := decide_eq_true c3
        clear c3
        by_cases c4 : 0 ≤ x8_1
        · rw [if_pos c4] at H
          have c4b0 : decide (0 ≤ x8_1) = true := decide_eq_true c4
          clear c4
          by_cases c5 : x8_1 < (l0.length : Int)
          · rw [if_pos c5] at H
            have c5b0 : decide (x8_1 < (l0.length : Int)) = true := decide_eq_true c5
            clear c5
            by_cases c6 : (rd l0 x8_1) < 0
            · rw [if_pos c6] at H
              have c6b0 : decide ((rd l0 x8_1) < 0) = true := decide_eq_true c6
              clear c6
              obtain rfl := Option.some.inj H
              have p134 : 0 ≤ (x8_1 : Int) := of_decide_eq_true (by first | (with_reducible assumption) | assumption)
              have q134 : x8_1 < (l0.length : Int) := of_decide_eq_true (by first | (with_reducible assumption) | assumption)
              obtain ⟨ad134, e134, hx134_0⟩ := Kd.at_int HR0.out x8_1 p134 q134
              cases e134
              replace p134 := eq_true p134; (try (have p134s := p134; rw [List.length_drop] at p134s)); (try (have p134t := p134; rw [List.length_take] at p134t))
              replace q134 := eq_true q134; (try (have q134s := q134; rw [List.length_drop] at q134s)); (try (have q134t := q134; rw [List.length_take] at q134t))
              have hv_ : decide ((rd l0 x8_1) < 0 ∨ (rd l0 x8_1) ≥ (n2 : Int)) = true := decide_eq_true (.inl (of_decide_eq_true c6b0))
              go_wp2_with ((with_reducible refine gate_value 11 rfl ?_); refine goesV_ (some 16) rfl rfl Try.func77 (by kernel_rfl) rfl #[.int .i64 (rd l0 x8_1)] #[.pointer (some p0)] rfl rfl (by (try simp only [List.map_toArray, List.map_cons, List.map_nil]); first | done | rfl) ?_; refine (at1.calls (rd l0 x8_1) A2 n2 c2 p0 _ (cell_drewN HP.out _)).mono ?_; rintro e w' ⟨rfl, ⟨nd, rfl⟩⟩; refine ⟨_, rfl, ?_⟩; rw [hv_])
              go_ret
              exact ⟨by first | rfl | (simp; done) | (simp [*]; done), by repeat (first | exact Drawn0.refl _ | apply Drawn0.step)⟩
            · rw [if_neg c6] at H
              have c6b0 : decide ((rd l0 x8_1) < 0) = false := decide_eq_false c6
              clear c6
              by_cases c7 : (rd l0 x8_1) ≥ a1
              · rw [if_pos c7] at H
                have c7b0 : decide (a1 ≤ (rd l0 x8_1)) = true := decide_eq_true c7
                clear c7
                obtain rfl := Option.some.inj H
                have p134 : 0 ≤ (x8_1 : Int) := of_decide_eq_true (by first | (with_reducible assumption) | assumption)
                have q134 : x8_1 < (l0.length : Int) := of_decide_eq_true (by first | (with_reducible assumption) | assumption)
                obtain ⟨ad134, e134, hx134_0⟩ := Kd.at_int HR0.out x8_1 p134 q134
                cases e134
                replace p134 := eq_true p134; (try (have p134s := p134; rw [List.length_drop] at p134s)); (try (have p134t := p134; rw [List.length_take] at p134t))
                replace q134 := eq_true q134; (try (have q134s := q134; rw [List.length_drop] at q134s)); (try (have q134t := q134; rw [List.length_take] at q134t))
                have hv_ : decide ((rd l0 x8_1) < 0 ∨ (rd l0 x8_1) ≥ (n2 : Int)) = true := decide_eq_true (.inr (by have h1_ := HA1.out; have h2_ := of_decide_eq_true c7b0; omega))
                go_wp2_with ((with_reducible refine gate_value 11 rfl ?_); refine goesV_ (some 16) rfl rfl Try.func77 (by kernel_rfl) rfl #[.int .i64 (rd l0 x8_1)] #[.pointer (some p0)] rfl rfl (by (try simp only [List.map_toArray, List.map_cons, List.map_nil]); first | done | rfl) ?_; refine (at1.calls (rd l0 x8_1) A2 n2 c2 p0 _ (cell_drewN HP.out _)).mono ?_; rintro e w' ⟨rfl, ⟨nd, rfl⟩⟩; refine ⟨_, rfl, ?_⟩; rw [hv_])
                go_ret
                exact ⟨by first | rfl | (simp; done) | (simp [*]; done), by repeat (first | exact Drawn0.refl _ | apply Drawn0.step)⟩
              · rw [if_neg c7] at H
                have c7b0 : decide (a1 ≤ (rd l0 x8_1)) = false := decide_eq_false c7
                clear c7
                have H' := Aside0.mk H
                clear H
                have p134 : 0 ≤ (x8_1 : Int) := of_decide_eq_true (by first | (with_reducible assumption) | assumption)
                have q134 : x8_1 < (l0.length : Int) := of_decide_eq_true (by first | (with_reducible assumption) | assumption)
                obtain ⟨ad134, e134, hx134_0⟩ := Kd.at_int HR0.out x8_1 p134 q134
                cases e134
                replace p134 := eq_true p134; (try (have p134s := p134; rw [List.length_drop] at p134s)); (try (have p134t := p134; rw [List.length_take] at p134t))
                replace q134 := eq_true q134; (try (have q134s := q134; rw [List.length_drop] at q134s)); (try (have q134t := q134; rw [List.length_take] at q134t))
                have hv_ : decide ((rd l0 x8_1) < 0 ∨ (rd l0 x8_1) ≥ (n2 : Int)) = false := decide_eq_false (by have h1_ := HA1.out; have h2_ := of_decide_eq_false c7b0; have h3_ := of_decide_eq_false c6b0; omega)
                go_wp2_with ((with_reducible refine gate_value 11 rfl ?_); refine goesV_ (some 16) rfl rfl Try.func77 (by kernel_rfl) rfl #[.int .i64 (rd l0 x8_1)] #[.pointer (some p0)] rfl rfl (by (try simp only [List.map_toArray, List.map_cons, List.map_nil]); first | done | rfl) ?_; refine (at1.calls (rd l0 x8_1) A2 n2 c2 p0 _ (cell_drewN HP.out _)).mono ?_; rintro e w' ⟨rfl, ⟨nd, rfl⟩⟩; refine ⟨_, rfl, ?_⟩; rw [hv_])
                go_roundg k1
                case measure => have := HK1.out; omega
                case rel => exact ⟨(wrap64 (x8_1 + 1)), (by first | rfl | (simp; done) | (simp [*]; done)), H', ⟨by have := HK1.out; omega⟩, by repeat (first | exact Drawn0.refl _ | apply Drawn0.step)⟩
          · rw [if_neg c5] at H
            exact absurd H (by simp)
        · rw [if_neg c4] at H
          exact absurd H (by simp)
      · rw [if_neg c3] at H
        have c3b0 : decide (x8_1 < (l0.length : Int)) = false := decide_eq_false c3
        clear c3
        obtain rfl := Option.some.inj H
        go_wp2
        go_ret
        exact ⟨by first | rfl | (simp; done) | (simp [*]; done), by repeat (first | exact Drawn0.refl _ | apply Drawn0.step)⟩

/-! ### slices_ContainsFunc_int_int: function 76 -/
def slices_ContainsFunc_int_int.f (k : Nat) (l0 : List Int) (a1 : Int) : Option (Bool) := (slices_IndexFunc_int_int.f k l0 a1).bind fun t135 => (some (decide (t135 ≥ 0)))
theorem slices_ContainsFunc_int_int.mono : ∀ a0 a1 k, LeO (slices_ContainsFunc_int_int.f k a0 a1) (slices_ContainsFunc_int_int.f (k + 1) a0 a1) := by
  intro a0 a1 k
  unfold slices_ContainsFunc_int_int.f
  repeat' first
      | (with_reducible exact slices_IndexFunc_int_int.mono _ _ _)
      | (with_reducible exact LeO.refl _)
      | (with_reducible exact LeO.none _)
      | (with_reducible refine LeO.ite ?_ ?_)
      | (with_reducible refine LeO.bind ?_ (fun _ => ?_))
      | exact slices_IndexFunc_int_int.mono _ _ _
      | exact LeO.none _
      | refine LeO.ite ?_ ?_
      | refine LeO.bind ?_ (fun _ => ?_)
set_option maxHeartbeats 8000000 in
set_option maxRecDepth 100000 in
theorem slices_ContainsFunc_int_int.calls (k : Nat) (A0 : Option Addr) (c0 : Nat) (l0 : List Int) (a1 : Int) (p0 : Addr) (A2 : Option Addr) (n2 c2 : Nat) (r : Bool) (w : World) (hr0 : Kd.C (Kd.int .i64) w A0 l0.length l0) (hc0 : l0.length ≤ c0) (hp : w.cell? p0 = some (.slice A2 n2 c2)) (ha : a1 = (n2 : Int)) (h : slices_ContainsFunc_int_int.f k l0 a1 = some r) :
    Calls Try.prog 76 #[.slice A0 l0.length c0, .func (.func 77) #[] #[.pointer (some p0)]] w fun e w' => e = .returned (.bool r) ∧ Drawn0 w w' := by
  have HR0 := Aside0.mk hr0
  have HC0 := Aside0.mk hc0
  have HP := Aside0.mk hp
  have HA1 := Aside0.mk ha
  clear hr0 hc0 hp ha
  have H : ((slices_IndexFunc_int_int.f k l0 a1).bind fun t135 => (some (decide (t135 ≥ 0)))) = some r := h
  clear h
  replace H := Option.bind_eq_some_iff.mp H
  obtain ⟨t135, A30, H⟩ := H
  replace H : (some (decide (t135 ≥ 0))) = some r := H
  have A3 := Aside0.mk A30
  clear A30
  obtain rfl := Option.some.inj H
  go_enter Try.func76, Try.ntmps76
  go_wp2_with (first | ((with_reducible refine gate_callee (f := 80) rfl ?_); refine goesL_ (some 7) rfl rfl Try.func80 (by kernel_rfl) rfl #[.slice A0 l0.length c0, .func (.func 77) #[] #[.pointer (some p0)]] rfl (by (try simp only [List.map_toArray, List.map_cons, List.map_nil]); first | done | rfl | (simp only [List.length_drop, List.length_take]; rfl)) ?_; (with_reducible refine (slices_IndexFunc_int_int.calls k _ _ l0 a1 p0 A2 n2 c2 t135 _ ?side1 ?side2 HP.out HA1.out A3.out).mono ?_); (case side1 => repeat (first | exact HR0.out | (with_reducible refine Kd.C_alloc ?_ _) | (with_reducible refine Kd.C_drewN ?_ _) | (with_reducible refine Kd.C_drew ?_))); (case side2 => exact HC0.out); rintro e w' ⟨rfl, ⟨nd, rfl⟩⟩; refine ⟨_, rfl, ?_⟩))
  go_ret
  exact ⟨by first | rfl | (simp; done) | (simp [*]; done), by repeat (first | exact Drawn0.refl _ | apply Drawn0.step)⟩

/-! ### net_at: function 60 -/
def net_at.f (k : Nat) (l0 : List (S40)) (l1 : List Int) : Option (Bool) := (slices_ContainsFunc_int_int.f k l1 (l0.length : Int)).bind fun t137 => (some (!t137))
theorem net_at.mono : ∀ a0 a1 k, LeO (net_at.f k a0 a1) (net_at.f (k + 1) a0 a1) := by
  intro a0 a1 k
  unfold net_at.f
  repeat' first
      | (with_reducible exact slices_ContainsFunc_int_int.mono _ _ _)
      | (with_reducible exact LeO.refl _)
      | (with_reducible exact LeO.none _)
      | (with_reducible refine LeO.ite ?_ ?_)
      | (with_reducible refine LeO.bind ?_ (fun _ => ?_))
      | exact slices_ContainsFunc_int_int.mono _ _ _
      | exact LeO.none _
      | refine LeO.ite ?_ ?_
      | refine LeO.bind ?_ (fun _ => ?_)
set_option maxHeartbeats 8000000 in
set_option maxRecDepth 100000 in
theorem net_at.calls (k : Nat) (A0 : Option Addr) (c0 : Nat) (l0 : List (S40)) (A1 : Option Addr) (c1 : Nat) (l1 : List Int) (r : Bool) (w : World) (hr0 : Kd.C k40 w A0 l0.length l0) (hc0 : l0.length ≤ c0) (hr1 : Kd.C (Kd.int .i64) w A1 l1.length l1) (hc1 : l1.length ≤ c1) (h : net_at.f k l0 l1 = some r) :
    Calls Try.prog 60 #[.slice A0 l0.length c0, .slice A1 l1.length c1] w fun e w' => e = .returned (.bool r) ∧ Below w.heap.size w w' := by
  have hu40 := Try.underlying40
  have HR0 := Aside0.mk hr0
  have HC0 := Aside0.mk hc0
  clear hr0 hc0
  have HR1 := Aside0.mk hr1
  have HC1 := Aside0.mk hc1
  clear hr1 hc1
  have HB := Aside0.mk (Below.refl w.heap.size w)
  have H : ((slices_ContainsFunc_int_int.f k l1 (l0.length : Int)).bind fun t137 => (some (!t137))) = some r := h
  clear h
  replace H := Option.bind_eq_some_iff.mp H
  obtain ⟨t137, A30, H⟩ := H
  replace H : (some (!t137)) = some r := H
  have A3 := Aside0.mk A30
  clear A30
  obtain rfl := Option.some.inj H
  have hmf : ∀ (fn : Fn) (first cap : Array Value) (w : World), (Instr.makeFunc fn first cap).run Try.prog w = .ok (.func fn first cap) w := fun _ _ _ _ => rfl
  go_enter Try.func60, Try.ntmps60
  go_wp2_with ((with_reducible refine gate_callee (f := 76) rfl ?_); generalize hw_ : w.alloc (Obj.cells #[.slice A0 l0.length c0] 33) = w1; have HW1 := Aside0.mk (box_cell hw_); have HB1 := Aside0.mk (box_below hw_); have HR2 := Aside0.mk (box_C hw_ HR1.out); clear hw_; refine goesL_ (some 7) rfl rfl Try.func76 (by kernel_rfl) rfl #[.slice A1 l1.length c1, .func (.func 77) #[] #[.pointer (some ⟨w.heap.size, 0, none⟩)]] rfl (by (try simp only [List.map_toArray, List.map_cons, List.map_nil]); first | done | rfl) ?_; refine (slices_ContainsFunc_int_int.calls k _ _ l1 (l0.length : Int) ⟨w.heap.size, 0, none⟩ A0 l0.length c0 t137 _ HR2.out HC1.out HW1.out rfl A3.out).mono ?_; rintro e w' ⟨rfl, ⟨nd, rfl⟩⟩; refine ⟨_, rfl, ?_⟩)
  go_ret
  exact ⟨by first | rfl | (simp; done) | (simp [*]; done), pw_below_drewN HB1.out nd⟩

/-! ### net_Give: function 24 -/
def net_Give.f (k : Nat) (l0 : List (S40)) (a1 : Int) : Option (Int × List Int × (List (S40)) × Int) := (net_copied.f k l0).bind fun t139 => ((net_at.f k l0 (([a1] : List Int))).bind fun t145 => (if t145 = true then (if 0 ≤ a1 then (if a1 < (t139.length : Int) then (some ((rd_T40 t139 a1).f0, (rd_T40 t139 a1).f1, t139.eraseIdx (a1 : Int).toNat, 0)) else (none)) else (none)) else (some (0, ([] : List Int), t139, 1))))
theorem net_Give.mono : ∀ a0 a1 k, LeO (net_Give.f k a0 a1) (net_Give.f (k + 1) a0 a1) := by
  intro a0 a1 k
  unfold net_Give.f
  repeat' first
      | (with_reducible exact net_at.mono _ _ _)
      | (with_reducible exact net_copied.mono _ _)
      | (with_reducible exact LeO.refl _)
      | (with_reducible exact LeO.none _)
      | (with_reducible refine LeO.ite ?_ ?_)
      | (with_reducible refine LeO.bind ?_ (fun _ => ?_))
      | exact net_at.mono _ _ _
      | exact net_copied.mono _ _
      | exact LeO.none _
      | refine LeO.ite ?_ ?_
      | refine LeO.bind ?_ (fun _ => ?_)
set_option maxHeartbeats 8000000 in
set_option maxRecDepth 100000 in
theorem net_Give.calls (k : Nat) (A0 : Option Addr) (c0 : Nat) (l0 : List (S40)) (a1 : Int) (r1 : Int) (r2 : List Int) (r3 : List (S40)) (r4 : Int) (w : World) (hr0 : Kd.C k40 w A0 l0.length l0) (hc0 : l0.length ≤ c0) (h : net_Give.f k l0 a1 = some (r1, r2, r3, r4)) :
    Calls Try.prog 24 #[.slice A0 l0.length c0, .int .i64 a1] w fun e w' => ∃ v1_ v2_ : Value, e = .returned (.tuple #[.agg #[.int .i64 r1, v1_], v2_, .int .i64 r4]) ∧ Kd.V (Kd.int .u8) 5 w' w.heap.size (fun k_ => (w.heap.size ≤ k_) ∧ some k_ ≠ (v2_ : Value).ownBlock) v1_ r2 ∧ Kd.N k40 40 w' w.heap.size (fun k_ => (w.heap.size ≤ k_)) v2_ r3 ∧ Below w.heap.size w w' := by
  have hu40 := Try.underlying40
  have HR0 := Aside0.mk hr0
  have HC0 := Aside0.mk hc0
  clear hr0 hc0
  have HB := Aside0.mk (Below.refl w.heap.size w)
  have H : ((net_copied.f k l0).bind fun t139 => ((net_at.f k l0 (([a1] : List Int))).bind fun t145 => (if t145 = true then (if 0 ≤ a1 then (if a1 < (t139.length : Int) then (some ((rd_T40 t139 a1).f0, (rd_T40 t139 a1).f1, t139.eraseIdx (a1 : Int).toNat, 0)) else (none)) else (none)) else (some (0, ([] : List Int), t139, 1))))) = some (r1, r2, r3, r4) := h
  clear h
  replace H := Option.bind_eq_some_iff.mp H
  obtain ⟨t139, A30, H⟩ := H
  replace H : ((net_at.f k l0 (([a1] : List Int))).bind fun t145 => (if t145 = true then (if 0 ≤ a1 then (if a1 < (t139.length : Int) then (some ((rd_T40 t139 a1).f0, (rd_T40 t139 a1).f1, t139.eraseIdx (a1 : Int).toNat, 0)) else (none)) else (none)) else (some (0, ([] : List Int), t139, 1)))) = some (r1, r2, r3, r4) := H
  have A3 := Aside0.mk A30
  clear A30
  obtain ⟨y142, hy142⟩ : ∃ y_ : List Int, y_ = (([a1] : List Int)) := ⟨_, rfl⟩
  replace H : ((net_at.f k l0 y142).bind fun t145 => (if t145 = true then (if 0 ≤ a1 then (if a1 < (t139.length : Int) then (some ((rd_T40 t139 a1).f0, (rd_T40 t139 a1).f1, t139.eraseIdx (a1 : Int).toNat, 0)) else (none)) else (none)) else (some (0, ([] : List Int), t139, 1)))) = some (r1, r2, r3, r4) := by rw [hy142]; exact H
  have Ny142 := Aside0.mk hy142
  clear hy142
  replace H := Option.bind_eq_some_iff.mp H
  obtain ⟨t145, A40, H⟩ := H
  replace H : (if t145 = true then (if 0 ≤ a1 then (if a1 < (t139.length : Int) then (some ((rd_T40 t139 a1).f0, (rd_T40 t139 a1).f1, t139.eraseIdx (a1 : Int).toNat, 0)) else (none)) else (none)) else (some (0, ([] : List Int), t139, 1))) = some (r1, r2, r3, r4) := H
  have A4 := Aside0.mk A40
  clear A40
  by_cases c5 : t145 = true
  · subst c5
    have H1 : (if 0 ≤ a1 then (if a1 < (t139.length : Int) then (some ((rd_T40 t139 a1).f0, (rd_T40 t139 a1).f1, t139.eraseIdx (a1 : Int).toNat, 0)) else (none)) else (none)) = some (r1, r2, r3, r4) := by first | (rw [if_pos rfl] at H; exact H) | (rw [if_pos True.intro] at H; exact H)
    clear H
    have H := H1
    clear H1
    by_cases c6 : 0 ≤ a1
    · rw [if_pos c6] at H
      have c6b0 : decide (0 ≤ a1) = true := decide_eq_true c6
      clear c6
      by_cases c7 : a1 < (t139.length : Int)
      · rw [if_pos c7] at H
        have c7b0 : decide (a1 < (t139.length : Int)) = true := decide_eq_true c7
        have HK0 := Aside0.mk (show a1.toNat < t139.length by have := of_decide_eq_true c6b0; omega)
        have HA0 := Aside0.mk (show ((a1.toNat : Nat) : Int) = a1 by have := of_decide_eq_true c6b0; omega)
        have HW0 := Aside0.mk (of_decide_eq_true c6b0)
        clear c7
        simp only [Option.some.injEq, Prod.mk.injEq] at H
        obtain ⟨rfl, rfl, rfl, rfl⟩ := H
        go_enter Try.func24, Try.ntmps24
        try go_wp2_with (first | ((with_reducible refine gate_dst (N := 4) rfl ?_); refine box_event ?hg (N := 4) ?hd (cs := #[.int .i64 0, .slice none 0 0]) (t := 40) ?hr ?_; (case hd => rfl); (case hg => rfl); (case hr => first | (go_simp; done) | (go_simp; rfl)); intro gb138 hg w16 hbox hb; have n0_ := Aside0.mk (below_step (by repeat (first | (with_reducible first | exact HB.out | apply below_alloc | apply pw_below_drewN | apply below_drew1) | exact HB.out)) hb); have n1_ := Aside0.mk (hbox); have n2_ := Aside0.mk ((by rw [hg]; exact (below_size (by repeat (first | (with_reducible first | exact HB.out | apply below_alloc | apply pw_below_drewN | apply below_drew1) | exact HB.out))) : w.heap.size ≤ gb138)); have n3_ := Aside0.mk ((by rw [hg]; exact (below_size (by repeat (first | (with_reducible first | exact HB.out | apply below_alloc | apply pw_below_drewN | apply below_drew1) | exact HB.out))) : w.heap.size ≤ gb138)); clear HB; have HB := n0_; have BK138 := n1_; have GW138 := n2_; have GE138 := n3_; clear n0_ n1_ n2_ n3_; clear hb hbox hg) | ((with_reducible refine gate_callee (f := 59) rfl ?_); refine goesL_ (some 9) rfl rfl Try.func59 (by kernel_rfl) rfl #[.slice A0 l0.length c0] rfl (by (try simp only [List.map_toArray, List.map_cons, List.map_nil]); first | done | rfl | (simp only [List.length_drop, List.length_take]; rfl)) ?_; (with_reducible refine (net_copied.calls k _ _ l0 t139 _ ?side1 ?side2 A3.out).mono ?_); (case side1 => repeat (first | exact (Kd.C_below HR0.out HB.out) | (with_reducible refine Kd.C_alloc ?_ _) | (with_reducible refine Kd.C_drewN ?_ _) | (with_reducible refine Kd.C_drew ?_))); (case side2 => exact HC0.out); rintro e w17 ⟨v140, rfl, ho0, hb⟩; refine ⟨_, rfl, ?_⟩; have n0_ := Aside0.mk (Kd.N_lower (Kd.N_mono (ok' := fun k_ => (w.heap.size ≤ k_) ∧ k_ ≠ gb138) (Kd.S_N (Kd.S_bound ho0)) (fun k_ hk_ => ⟨(Nat.le_trans (below_size (by repeat (first | (with_reducible first | exact HB.out | apply below_alloc | apply pw_below_drewN | apply below_drew1 | refine below_set ?_ GE138.out) | exact HB.out))) hk_.2.1), (Kd.freshB (g := gb138) (o := .cells #[.int .i64 0, .slice none 0 0] 40 (0, 0)) (by (with_reducible repeat (first | refine blk_drewN ?_ _ | refine blk_drew ?_ | refine blk_alloc ?_ _)); exact BK138.out) k_ hk_.2.1)⟩)) (below_size (by repeat (first | (with_reducible first | exact HB.out | apply below_alloc | apply pw_below_drewN | apply below_drew1 | refine below_set ?_ GE138.out) | exact HB.out)))); have n1_ := Aside0.mk (blk_below (g := gb138) (o := .cells #[.int .i64 0, .slice none 0 0] 40 (0, 0)) (by (with_reducible repeat (first | refine blk_drewN ?_ _ | refine blk_drew ?_ | refine blk_alloc ?_ _)); exact BK138.out) hb); have n2_ := Aside0.mk (below_step (by repeat (first | (with_reducible first | exact HB.out | apply below_alloc | apply pw_below_drewN | apply below_drew1 | refine below_set ?_ GE138.out) | exact HB.out)) hb); clear BK138; clear HB; have HO141 := n0_; have BK138 := n1_; have HB := n2_; clear n0_ n1_ n2_; (try clear hb); (try clear hb2); (try clear hk); (try clear hi); (try clear ho0)) | ((with_reducible refine gate_dst (N := 12) rfl ?_); refine Kd.R_lit (Kd.int .i64) _ 3 ?hg (N := 12) ?hd (xs := ([a1] : List Int)) (inner := [.int .i64 a1]) (ok := fun _ => True) (okp := fun _ => True) ?hr ?hp (fun _ hk => hk) trivial (Below.refl _ _) (Nat.le_refl _) (by simp) ?_; (case hd => rfl); (case hg => rfl); (case hr => first | (go_simp; done) | (go_simp; rfl)); (case hp => exact (Reps.one (show Kd.M (Kd.int .i64) _ _ _ a1 [.int .i64 a1] from rfl) (Reps.none _ _))); intro v143 w18 ho19 hb hg_ hnew_; clear hg_ hnew_; (first | rw [← Ny142.out] at ho19 | (simp only [Int.reduceToNat] at ho19; rw [← Ny142.out] at ho19)); have n0_ := Aside0.mk (Kd.N_elder' (by (with_reducible repeat (first | apply Kd.N_alloc | apply Kd.N_drewN | apply Kd.N_drew)); exact HO141.out) (Kd.R_base ho19) hb); have n1_ := Aside0.mk (Kd.R_lower (Kd.R_newM (M := fun k_ => (w.heap.size ≤ k_)) ho19 (below_size (by repeat (first | (with_reducible first | exact HB.out | apply below_alloc | apply pw_below_drewN | apply below_drew1 | refine below_set ?_ GE138.out) | exact HB.out))) (fun k_ h_ => h_)) (below_size (by repeat (first | (with_reducible first | exact HB.out | apply below_alloc | apply pw_below_drewN | apply below_drew1 | refine below_set ?_ GE138.out) | exact HB.out)))); have n2_ := Aside0.mk (blk_below (g := gb138) (o := .cells #[.int .i64 0, .slice none 0 0] 40 (0, 0)) (by (with_reducible repeat (first | refine blk_drewN ?_ _ | refine blk_drew ?_ | refine blk_alloc ?_ _)); exact BK138.out) hb); have n3_ := Aside0.mk (below_step (by repeat (first | (with_reducible first | exact HB.out | apply below_alloc | apply pw_below_drewN | apply below_drew1 | refine below_set ?_ GE138.out) | exact HB.out)) hb); clear HO141; clear BK138; clear HB; have HO141 := n0_; have HO144 := n1_; have BK138 := n2_; have HB := n3_; clear n0_ n1_ n2_ n3_; clear hb ho19; obtain ⟨Ao20, co20, eo20⟩ := Kd.R_slice HO144.out; subst eo20) | ((with_reducible refine gate_callee (f := 60) rfl ?_); refine goesL_ (some 13) rfl rfl Try.func60 (by kernel_rfl) rfl #[.slice A0 l0.length c0, .slice Ao20 y142.length co20] rfl (by (try simp only [List.map_toArray, List.map_cons, List.map_nil]); first | done | rfl | (simp only [List.length_drop, List.length_take]; rfl)) ?_; (with_reducible refine (net_at.calls k _ _ l0 _ _ y142 true _ ?side1 ?side2 ?side3 ?side4 A4.out).mono ?_); (case side1 => repeat (first | exact (Kd.C_below HR0.out HB.out) | (with_reducible refine Kd.C_alloc ?_ _) | (with_reducible refine Kd.C_drewN ?_ _) | (with_reducible refine Kd.C_drew ?_))); (case side2 => exact HC0.out); (case side3 => repeat (first | exact (Kd.R_reads' HO144.out).2.2 | (with_reducible refine Kd.C_alloc ?_ _) | (with_reducible refine Kd.C_drewN ?_ _) | (with_reducible refine Kd.C_drew ?_))); (case side4 => exact (Kd.R_reads' HO144.out).2.1); rintro e w21 ⟨rfl, hb⟩; refine ⟨_, rfl, ?_⟩; have n0_ := Aside0.mk (Kd.N_below (by (with_reducible repeat (first | apply Kd.N_alloc | apply Kd.N_drewN | apply Kd.N_drew)); exact HO141.out) hb); have n1_ := Aside0.mk (Kd.R_below (by (with_reducible repeat (first | apply Kd.R_alloc | apply Kd.R_drewN | apply Kd.R_drew)); exact HO144.out) hb); have n2_ := Aside0.mk (blk_below (g := gb138) (o := .cells #[.int .i64 0, .slice none 0 0] 40 (0, 0)) (by (with_reducible repeat (first | refine blk_drewN ?_ _ | refine blk_drew ?_ | refine blk_alloc ?_ _)); exact BK138.out) hb); have n3_ := Aside0.mk (below_step (by repeat (first | (with_reducible first | exact HB.out | apply below_alloc | apply pw_below_drewN | apply below_drew1 | refine below_set ?_ GE138.out) | exact HB.out)) hb); clear HO141; clear HO144; clear BK138; clear HB; have HO141 := n0_; have HO144 := n1_; have BK138 := n2_; have HB := n3_; clear n0_ n1_ n2_ n3_; (try clear hb); (try clear hb2); (try clear hk); (try clear hi); obtain ⟨Ao22, co22, eo22⟩ := Kd.N_slice HO141.out; subst eo22; have p146 : 0 ≤ (a1 : Int) := of_decide_eq_true (by first | (with_reducible assumption) | assumption); have q146 : a1 < (t139.length : Int) := of_decide_eq_true (by first | (with_reducible assumption) | assumption); obtain ⟨ad146, A146_1, c146_1, e146, hx146_0, hx146_1, hl146_1, hi146_1⟩ := at_T40 (Kd.N_reads' HO141.out).2.2 a1 p146 q146; cases e146; obtain ⟨ce146, hce146, hMe146, hcc146⟩ := Kd.N_get HO141.out z40 a1 p146 (by first | exact q146 | exact of_decide_eq_true (by first | (with_reducible assumption) | assumption) | (have e_ := (Kd.N_reads' HO141.out).1; omega)); obtain ⟨ua146_1, uc146_1, rfl, ul146_1, ge146_1⟩ := k40_openF hMe146; have hv146_1 := hcc146 1 _ rfl; rw [add_field _ _ 1 (by omega)] at hv146_1; replace hv146_1 := Option.some.inj (hv146_1.symm.trans hx146_1); injection hv146_1 with hva_ hvn_ hvc_; rw [hva_] at ge146_1; rw [hvc_] at ul146_1; have HL146_1 := Aside0.mk (show Kd.V (Kd.int .u8) 5 _ w.heap.size _ _ ((rd_T40 t139 a1).f1) from Kd.V_mk ul146_1 ge146_1); clear hva_ hvn_ hvc_ ge146_1 ul146_1; clear hcc146 hce146; have HR146_1 := Aside0.mk hi146_1; have HC146_1 := Aside0.mk hl146_1; clear hi146_1 hl146_1; replace p146 := eq_true p146; (try (have p146s := p146; rw [List.length_drop] at p146s)); (try (have p146t := p146; rw [List.length_take] at p146t)); replace q146 := eq_true q146; (try (have q146s := q146; rw [List.length_drop] at q146s)); (try (have q146t := q146; rw [List.length_take] at q146t)); have HOg := Aside0.mk (Kd.N_mono (ok' := fun k_ => w.heap.size ≤ k_ ∧ k_ ≠ gb138) HO141.out (fun k_ hk => hk.1)); have HLg := Aside0.mk (Kd.V_mono (ok' := fun k_ => (w.heap.size ≤ k_ ∧ k_ ≠ gb138) ∧ some k_ ≠ (.slice (some ad146) t139.length co22 : Value).ownBlock) HL146_1.out (fun k_ hk => ⟨hk.1.1, hk.2⟩)); clear HO141 HO144 HL146_1 HR146_1 HC146_1; have hcz_0 : w21.cell? ⟨gb138, 0, none⟩ = some (.int .i64 0) := (blk_cell BK138.out 0).trans rfl; have hcz_1 : w21.cell? ⟨gb138, 1, none⟩ = some (.slice none 0 0) := (blk_cell BK138.out 1).trans rfl; have hfz_0 := blk_frozen BK138.out 0; have hfz_1 := blk_frozen BK138.out 1))
        have n0_ := Aside0.mk (Kd.N_far (p := ⟨gb138, 1, none⟩) (Kd.N_far (p := ⟨gb138, 0, none⟩) HOg.out (fun _ hk => hk.2) (.int .i64 ((rd_T40 t139 a1).f0))) (fun _ hk => hk.2) (.slice A146_1 ((rd_T40 t139 a1).f1).length c146_1))
        have n1_ := Aside0.mk (Kd.V_far (p := ⟨gb138, 1, none⟩) (Kd.V_far (p := ⟨gb138, 0, none⟩) HLg.out (fun _ hk => hk.1.2) (.int .i64 ((rd_T40 t139 a1).f0))) (fun _ hk => hk.1.2) (.slice A146_1 ((rd_T40 t139 a1).f1).length c146_1))
        have n2_ : Aside0 (((w21.setCell ⟨gb138, 0, none⟩ (.int .i64 ((rd_T40 t139 a1).f0))).setCell ⟨gb138, 1, none⟩ (.slice A146_1 ((rd_T40 t139 a1).f1).length c146_1)).heap[gb138]? = some (.cells #[.int .i64 ((rd_T40 t139 a1).f0), .slice A146_1 ((rd_T40 t139 a1).f1).length c146_1] 40 (0, 0))) := ⟨by refine blk_put (cs := #[.int .i64 ((rd_T40 t139 a1).f0), .slice none 0 0]) ?_ 1 _ rfl; refine blk_put (cs := #[.int .i64 0, .slice none 0 0]) ?_ 0 _ rfl; exact BK138.out⟩
        have n3_ : Aside0 (Below w.heap.size w ((w21.setCell ⟨gb138, 0, none⟩ (.int .i64 ((rd_T40 t139 a1).f0))).setCell ⟨gb138, 1, none⟩ (.slice A146_1 ((rd_T40 t139 a1).f1).length c146_1))) := ⟨by repeat (first | (with_reducible first | exact HB.out | apply below_alloc | apply pw_below_drewN | apply below_drew1 | refine below_set ?_ GE138.out) | exact HB.out)⟩
        clear HOg HLg BK138 HB hcz_0 hcz_1 hfz_0 hfz_1 hx146_0 hx146_1
        generalize ((w21.setCell ⟨gb138, 0, none⟩ (.int .i64 ((rd_T40 t139 a1).f0))).setCell ⟨gb138, 1, none⟩ (.slice A146_1 ((rd_T40 t139 a1).f1).length c146_1)) = w30 at n0_ n1_ n2_ n3_ ⊢
        obtain ⟨go, hgo⟩ := N_head n0_.out
        subst hgo
        refine start_ (n := 9) (S := fun w' => w'.cell? ⟨gb138, 0, none⟩ = some (.int .i64 ((rd_T40 t139 a1).f0)) ∧ w'.cell? ⟨gb138, 1, none⟩ = some (.slice A146_1 ((rd_T40 t139 a1).f1).length c146_1)) (ds := [6]) #[false, false, false, false, false, false, false, false, false] (by kernel_rfl) rfl rfl ⟨(blk_cell n2_.out 0).trans rfl, (blk_cell n2_.out 1).trans rfl⟩ (fun hHeld => ?_)
        have HO := Aside0.mk (Kd.N_drew n0_.out)
        have HL := Aside0.mk (Kd.V_drew n1_.out)
        have BK := Aside0.mk (blk_drew n2_.out)
        have HB := Aside0.mk (below_drew1 n3_.out)
        clear n0_ n1_ n2_ n3_
        generalize w30.drew = w31 at HO HL BK HB hHeld ⊢
        refine pure_ (i := 1) (N := some 22) (v := ?_) (a' := ?_) #[false, true, false, false, false, false, false, false, false] rfl rfl (by kernel_rfl) (fun _ _ _ h => h) (Or.inl ⟨by rfl, ?_⟩) ?_ ?_
        rotate_left
        · intro w'
          go_simp
          with_reducible rfl
        rotate_left
        · simp only [Act.put, List.setIfInBounds_toArray, List.set_cons_zero, List.set_cons_succ, i64_w, i32_w]
          rfl
        refine pure_ (i := 2) (N := some 23) (v := ?_) (a' := ?_) #[false, true, true, false, false, false, false, false, false] rfl rfl (by kernel_rfl) (fun _ _ _ h => h) (Or.inl ⟨by rfl, ?_⟩) ?_ ?_
        rotate_left
        · intro w'
          go_simp
          with_reducible rfl
        rotate_left
        · simp only [Act.put, List.setIfInBounds_toArray, List.set_cons_zero, List.set_cons_succ, i64_w, i32_w]
          rfl
        refine pure_ (i := 3) (N := some 24) (v := ?_) (a' := ?_) #[false, true, true, true, false, false, false, false, false] rfl rfl (by kernel_rfl) (fun _ _ _ h => h) (Or.inl ⟨by rfl, ?_⟩) ?_ ?_
        rotate_left
        · intro w'
          go_simp
          with_reducible rfl
        rotate_left
        · simp only [Act.put, List.setIfInBounds_toArray, List.set_cons_zero, List.set_cons_succ, i64_w, i32_w]
          rfl
        refine pure_ (i := 4) (N := some 25) (v := ?_) (a' := ?_) #[false, true, true, true, true, false, false, false, false] rfl rfl (by kernel_rfl) (fun _ _ _ h => h) (Or.inl ⟨by rfl, ?_⟩) ?_ ?_
        rotate_left
        · intro w'
          go_simp
          with_reducible rfl
        rotate_left
        · simp only [Act.put, List.setIfInBounds_toArray, List.set_cons_zero, List.set_cons_succ, i64_w, i32_w]
          rfl
        refine take_ (i := 0) (N := some 21) (v := ?_) (a' := ?_) #[true, true, true, true, true, false, false, false, false] rfl rfl (by kernel_rfl) (fun _ _ _ h => h) (Or.inl ⟨by rfl, ?_⟩) hHeld ?_ ?_
        rotate_left
        · rintro w' ⟨s0, s1⟩
          go_simp
          with_reducible rfl
        rotate_left
        · simp only [Act.put, List.setIfInBounds_toArray, List.set_cons_zero, List.set_cons_succ, i64_w, i32_w]
          rfl
        refine one_ (i := 5) (N := some 26) #[true, true, true, true, true, true, false, false, false] rfl rfl (by kernel_rfl) (by decide) (fun K hK => ?_)
        have HGW := Aside0.mk (Nat.le_trans (Below.refl w.heap.size w).size HB.out.size)
        refine goes_ Try.func61 (by kernel_rfl) rfl #[.slice (some ⟨go, 0, none⟩) t139.length co22, .int .i64 ((a1.toNat : Nat) : Int), .int .i64 (((a1.toNat : Nat) : Int) + 1)] (by rfl) rfl rfl (by (try simp only [List.map_toArray, List.map_cons, List.map_nil]); have ha_ := HA0.out; have hw_ : wrap64 (a1 + 1) = a1 + 1 := (by have h1_ := HK0.out; have h2_ := N_cells HO.out; have h3_ := HW0.out; obtain ⟨_, _, _, h4_, h5_⟩ := h2_; unfold maxLen at h5_; unfold wrap64; omega); rw [ha_]; first | rfl | (show #[_, _, Value.int .i64 (wrap64 (a1 + 1))] = _; rw [hw_]; rfl) | (simp only [i64_w]; show #[_, _, Value.int .i64 (wrap64 (a1 + 1))] = _; rw [hw_]; rfl)) ?_
        refine (net_Delete.calls a1.toNat w31 HO.out HK0.out HB.out.size).mono ?_
        rintro e w32 ⟨rfl, hN, hBd, hg⟩
        refine ⟨_, rfl, ?_⟩
        have hne_ : gb138 ≠ go := fun he => (HO.out.1 go rfl).2 he.symm
        have HO2 := Aside0.mk hN
        have HL2 := Aside0.mk (Kd.V_grown HL.out hg (fun k_ hk => hk.2))
        have BK2 := Aside0.mk (blk_grown BK.out hg (fun he => hne_ (by injection he)))
        have HB2 := Aside0.mk (HB.out.trans hBd)
        clear HO HL BK HB hN hBd hg hHeld
        refine hK.out _ _ ⟨(blk_cell BK2.out 0).trans rfl, (blk_cell BK2.out 1).trans rfl⟩ (fun hHeld => ?_)
        clear hK K
        refine norm_ (a' := ?_) ?_ ?_
        rotate_left
        · show Act.put _ (some 26) _ = _
          simp only [Act.put, List.setIfInBounds_toArray, List.set_cons_zero, List.set_cons_succ, i64_w, i32_w]
          rfl
        refine last_ (i := 6) (N := none) #[true, true, true, true, true, true, true, false, false] rfl rfl (by kernel_rfl) (by decide) (fun K hK => ?_)
        have hs32 : w32.cell? ⟨gb138, 0, none⟩ = some (.int .i64 ((rd_T40 t139 a1).f0)) := (blk_cell BK2.out 0).trans rfl
        have hfs32 := blk_frozen BK2.out 0
        have hs33 : w32.cell? ⟨gb138, 1, none⟩ = some (.slice A146_1 ((rd_T40 t139 a1).f1).length c146_1) := (blk_cell BK2.out 1).trans rfl
        have hfs33 := blk_frozen BK2.out 1
        refine skip_ (w1 := ?_) (by rfl) rfl ?_ ?_
        rotate_left
        · go_simp
          rfl
        refine hK.out _ _ ?_
        clear hK K
        refine pure_ (i := 7) (N := some 5) (v := ?_) (a' := ?_) #[true, true, true, true, true, true, true, true, false] rfl rfl (by kernel_rfl) (fun _ _ _ h => h) (Or.inl ⟨by rfl, ?_⟩) ?_ ?_
        rotate_left
        · intro w'
          go_simp
          with_reducible rfl
        rotate_left
        · simp only [Act.put, List.setIfInBounds_toArray, List.set_cons_zero, List.set_cons_succ, i64_w, i32_w]
          rfl
        refine pure_ (i := 8) (N := some 6) (v := ?_) (a' := ?_) #[true, true, true, true, true, true, true, true, true] rfl rfl (by kernel_rfl) (fun _ _ _ h => h) (Or.inl ⟨by rfl, ?_⟩) ?_ ?_
        rotate_left
        · intro w'
          go_simp
          with_reducible rfl
        rotate_left
        · simp only [Act.put, List.setIfInBounds_toArray, List.set_cons_zero, List.set_cons_succ, i64_w, i32_w]
          rfl
        refine done_ (by kernel_rfl) ?_
        try go_wp2
        refine bodyPost_ret (results_ctt rfl _ _ gb138 40 #[.int .i64 ((rd_T40 t139 a1).f0), .slice A146_1 ((rd_T40 t139 a1).f1).length c146_1] (0, 0) _ rfl (by refine blk_put (cs := #[.int .i64 ((rd_T40 t139 a1).f0), .slice A146_1 ((rd_T40 t139 a1).f1).length c146_1]) ?_ 1 _ rfl; refine blk_put (cs := #[.int .i64 ((rd_T40 t139 a1).f0), .slice A146_1 ((rd_T40 t139 a1).f1).length c146_1]) ?_ 0 _ rfl; exact BK2.out) Try.underlying40 rfl (by kernel_rfl)) rfl ?_
        exact ⟨_, _, rfl, Kd.V_mono (Kd.V_far (p := ⟨gb138, 1, none⟩) (Kd.V_far (p := ⟨gb138, 0, none⟩) HL2.out (fun _ hk => hk.1.2) (.int .i64 ((rd_T40 t139 a1).f0))) (fun _ hk => hk.1.2) (.slice A146_1 ((rd_T40 t139 a1).f1).length c146_1)) (fun _ hk => ⟨hk.1.1, hk.2⟩), Kd.N_mono (Kd.N_far (p := ⟨gb138, 1, none⟩) (Kd.N_far (p := ⟨gb138, 0, none⟩) HO2.out (fun _ hk => hk.2) (.int .i64 ((rd_T40 t139 a1).f0))) (fun _ hk => hk.2) (.slice A146_1 ((rd_T40 t139 a1).f1).length c146_1)) (fun _ hk => hk.1), by repeat (first | (with_reducible first | exact HB2.out | refine below_set ?_ GE138.out) | exact HB2.out)⟩
      · rw [if_neg c7] at H
        exact absurd H (by simp)
    · rw [if_neg c6] at H
      exact absurd H (by simp)
  · replace c5 := Bool.eq_false_iff.mpr c5
    subst c5
    have H1 : (some (0, ([] : List Int), t139, 1)) = some (r1, r2, r3, r4) := by rw [if_neg (show ¬ (false = true) by decide)] at H; exact H
    clear H
    have H := H1
    clear H1
    simp only [Option.some.injEq, Prod.mk.injEq] at H
    obtain ⟨rfl, rfl, rfl, rfl⟩ := H
    go_enter Try.func24, Try.ntmps24
    go_wp2_with (first | ((with_reducible refine gate_dst (N := 4) rfl ?_); refine box_event ?hg (N := 4) ?hd (cs := #[.int .i64 0, .slice none 0 0]) (t := 40) ?hr ?_; (case hd => rfl); (case hg => rfl); (case hr => first | (go_simp; done) | (go_simp; rfl)); intro gb138 hg w34 hbox hb; have n0_ := Aside0.mk (below_step (by repeat (first | (with_reducible first | exact HB.out | apply below_alloc | apply pw_below_drewN | apply below_drew1) | exact HB.out)) hb); have n1_ := Aside0.mk (hbox); have n2_ := Aside0.mk ((by rw [hg]; exact (below_size (by repeat (first | (with_reducible first | exact HB.out | apply below_alloc | apply pw_below_drewN | apply below_drew1) | exact HB.out))) : w.heap.size ≤ gb138)); have n3_ := Aside0.mk ((by rw [hg]; exact (below_size (by repeat (first | (with_reducible first | exact HB.out | apply below_alloc | apply pw_below_drewN | apply below_drew1) | exact HB.out))) : w.heap.size ≤ gb138)); clear HB; have HB := n0_; have BK138 := n1_; have GW138 := n2_; have GE138 := n3_; clear n0_ n1_ n2_ n3_; clear hb hbox hg) | ((with_reducible refine gate_callee (f := 59) rfl ?_); refine goesL_ (some 9) rfl rfl Try.func59 (by kernel_rfl) rfl #[.slice A0 l0.length c0] rfl (by (try simp only [List.map_toArray, List.map_cons, List.map_nil]); first | done | rfl | (simp only [List.length_drop, List.length_take]; rfl)) ?_; (with_reducible refine (net_copied.calls k _ _ l0 t139 _ ?side1 ?side2 A3.out).mono ?_); (case side1 => repeat (first | exact (Kd.C_below HR0.out HB.out) | (with_reducible refine Kd.C_alloc ?_ _) | (with_reducible refine Kd.C_drewN ?_ _) | (with_reducible refine Kd.C_drew ?_))); (case side2 => exact HC0.out); rintro e w35 ⟨v140, rfl, ho0, hb⟩; refine ⟨_, rfl, ?_⟩; have n0_ := Aside0.mk (Kd.N_lower (Kd.N_mono (ok' := fun k_ => (w.heap.size ≤ k_) ∧ k_ ≠ gb138) (Kd.S_N (Kd.S_bound ho0)) (fun k_ hk_ => ⟨(Nat.le_trans (below_size (by repeat (first | (with_reducible first | exact HB.out | apply below_alloc | apply pw_below_drewN | apply below_drew1 | refine below_set ?_ GE138.out) | exact HB.out))) hk_.2.1), (Kd.freshB (g := gb138) (o := .cells #[.int .i64 0, .slice none 0 0] 40 (0, 0)) (by (with_reducible repeat (first | refine blk_drewN ?_ _ | refine blk_drew ?_ | refine blk_alloc ?_ _)); exact BK138.out) k_ hk_.2.1)⟩)) (below_size (by repeat (first | (with_reducible first | exact HB.out | apply below_alloc | apply pw_below_drewN | apply below_drew1 | refine below_set ?_ GE138.out) | exact HB.out)))); have n1_ := Aside0.mk (blk_below (g := gb138) (o := .cells #[.int .i64 0, .slice none 0 0] 40 (0, 0)) (by (with_reducible repeat (first | refine blk_drewN ?_ _ | refine blk_drew ?_ | refine blk_alloc ?_ _)); exact BK138.out) hb); have n2_ := Aside0.mk (below_step (by repeat (first | (with_reducible first | exact HB.out | apply below_alloc | apply pw_below_drewN | apply below_drew1 | refine below_set ?_ GE138.out) | exact HB.out)) hb); clear BK138; clear HB; have HO141 := n0_; have BK138 := n1_; have HB := n2_; clear n0_ n1_ n2_; (try clear hb); (try clear hb2); (try clear hk); (try clear hi); (try clear ho0)) | ((with_reducible refine gate_dst (N := 12) rfl ?_); refine Kd.R_lit (Kd.int .i64) _ 3 ?hg (N := 12) ?hd (xs := ([a1] : List Int)) (inner := [.int .i64 a1]) (ok := fun _ => True) (okp := fun _ => True) ?hr ?hp (fun _ hk => hk) trivial (Below.refl _ _) (Nat.le_refl _) (by simp) ?_; (case hd => rfl); (case hg => rfl); (case hr => first | (go_simp; done) | (go_simp; rfl)); (case hp => exact (Reps.one (show Kd.M (Kd.int .i64) _ _ _ a1 [.int .i64 a1] from rfl) (Reps.none _ _))); intro v143 w36 ho37 hb hg_ hnew_; clear hg_ hnew_; (first | rw [← Ny142.out] at ho37 | (simp only [Int.reduceToNat] at ho37; rw [← Ny142.out] at ho37)); have n0_ := Aside0.mk (Kd.N_elder' (by (with_reducible repeat (first | apply Kd.N_alloc | apply Kd.N_drewN | apply Kd.N_drew)); exact HO141.out) (Kd.R_base ho37) hb); have n1_ := Aside0.mk (Kd.R_lower (Kd.R_newM (M := fun k_ => (w.heap.size ≤ k_)) ho37 (below_size (by repeat (first | (with_reducible first | exact HB.out | apply below_alloc | apply pw_below_drewN | apply below_drew1 | refine below_set ?_ GE138.out) | exact HB.out))) (fun k_ h_ => h_)) (below_size (by repeat (first | (with_reducible first | exact HB.out | apply below_alloc | apply pw_below_drewN | apply below_drew1 | refine below_set ?_ GE138.out) | exact HB.out)))); have n2_ := Aside0.mk (blk_below (g := gb138) (o := .cells #[.int .i64 0, .slice none 0 0] 40 (0, 0)) (by (with_reducible repeat (first | refine blk_drewN ?_ _ | refine blk_drew ?_ | refine blk_alloc ?_ _)); exact BK138.out) hb); have n3_ := Aside0.mk (below_step (by repeat (first | (with_reducible first | exact HB.out | apply below_alloc | apply pw_below_drewN | apply below_drew1 | refine below_set ?_ GE138.out) | exact HB.out)) hb); clear HO141; clear BK138; clear HB; have HO141 := n0_; have HO144 := n1_; have BK138 := n2_; have HB := n3_; clear n0_ n1_ n2_ n3_; clear hb ho37; obtain ⟨Ao38, co38, eo38⟩ := Kd.R_slice HO144.out; subst eo38) | ((with_reducible refine gate_callee (f := 60) rfl ?_); refine goesL_ (some 13) rfl rfl Try.func60 (by kernel_rfl) rfl #[.slice A0 l0.length c0, .slice Ao38 y142.length co38] rfl (by (try simp only [List.map_toArray, List.map_cons, List.map_nil]); first | done | rfl | (simp only [List.length_drop, List.length_take]; rfl)) ?_; (with_reducible refine (net_at.calls k _ _ l0 _ _ y142 false _ ?side1 ?side2 ?side3 ?side4 A4.out).mono ?_); (case side1 => repeat (first | exact (Kd.C_below HR0.out HB.out) | (with_reducible refine Kd.C_alloc ?_ _) | (with_reducible refine Kd.C_drewN ?_ _) | (with_reducible refine Kd.C_drew ?_))); (case side2 => exact HC0.out); (case side3 => repeat (first | exact (Kd.R_reads' HO144.out).2.2 | (with_reducible refine Kd.C_alloc ?_ _) | (with_reducible refine Kd.C_drewN ?_ _) | (with_reducible refine Kd.C_drew ?_))); (case side4 => exact (Kd.R_reads' HO144.out).2.1); rintro e w39 ⟨rfl, hb⟩; refine ⟨_, rfl, ?_⟩; have n0_ := Aside0.mk (Kd.N_below (by (with_reducible repeat (first | apply Kd.N_alloc | apply Kd.N_drewN | apply Kd.N_drew)); exact HO141.out) hb); have n1_ := Aside0.mk (Kd.R_below (by (with_reducible repeat (first | apply Kd.R_alloc | apply Kd.R_drewN | apply Kd.R_drew)); exact HO144.out) hb); have n2_ := Aside0.mk (blk_below (g := gb138) (o := .cells #[.int .i64 0, .slice none 0 0] 40 (0, 0)) (by (with_reducible repeat (first | refine blk_drewN ?_ _ | refine blk_drew ?_ | refine blk_alloc ?_ _)); exact BK138.out) hb); have n3_ := Aside0.mk (below_step (by repeat (first | (with_reducible first | exact HB.out | apply below_alloc | apply pw_below_drewN | apply below_drew1 | refine below_set ?_ GE138.out) | exact HB.out)) hb); clear HO141; clear HO144; clear BK138; clear HB; have HO141 := n0_; have HO144 := n1_; have BK138 := n2_; have HB := n3_; clear n0_ n1_ n2_ n3_; (try clear hb); (try clear hb2); (try clear hk); (try clear hi); have hcz40_0 : w39.cell? ⟨gb138, 0, none⟩ = some (.int .i64 0) := (blk_cell BK138.out 0).trans rfl; have hcz40_1 : w39.cell? ⟨gb138, 1, none⟩ = some (.slice none 0 0) := (blk_cell BK138.out 1).trans rfl; have hfz40_0 := blk_frozen BK138.out 0; have hfz40_1 := blk_frozen BK138.out 1))
    refine bodyPost_ret (results_ctt rfl _ _ gb138 40 #[.int .i64 0, .slice none 0 0] (0, 0) _ rfl (by (with_reducible repeat (first | refine blk_drewN ?_ _ | refine blk_drew ?_ | refine blk_alloc ?_ _)); refine blk_put (cs := #[.int .i64 0, .slice none 0 0]) ?_ 1 _ rfl; (with_reducible repeat (first | refine blk_drewN ?_ _ | refine blk_drew ?_ | refine blk_alloc ?_ _)); refine blk_put (cs := #[.int .i64 0, .slice none 0 0]) ?_ 0 _ rfl; (with_reducible repeat (first | refine blk_drewN ?_ _ | refine blk_drew ?_ | refine blk_alloc ?_ _)); exact BK138.out) Try.underlying40 rfl (by kernel_rfl)) rfl ?_
    exact ⟨_, _, by first | rfl | (simp [errW_none, errW_some] <;> rfl) | (simp [*, errW_none, errW_some] <;> rfl), Kd.V_nil _ _ _ _ _, by (with_reducible repeat (first | apply Kd.N_alloc | apply Kd.N_drewN | apply Kd.N_drew)); exact Kd.N_mono (Kd.N_far (p := ⟨gb138, 1, none⟩) (Kd.N_far (p := ⟨gb138, 0, none⟩) (Kd.N_mono HO141.out (fun k_ hk => (⟨hk, hk.1.2⟩ : _ ∧ k_ ≠ gb138))) (fun _ hk => hk.2) (.int .i64 0)) (fun _ hk => hk.2) (.slice none 0 0)) (fun _ hk => hk.1.1.1), by repeat (first | (with_reducible first | exact HB.out | apply below_alloc | apply pw_below_drewN | apply below_drew1 | refine below_set ?_ GE138.out) | exact HB.out)⟩

/-! ### net_For: function 39 -/
def net_For.l0 : Nat → Int → Int → List (S40) → Int → Int → Option (Int)
  | 0, _, _, _, _, _ => none
  | k + 1, x1, x4, x7, x8, x9 => if x9 < x8 then (if 0 ≤ x9 then (if x9 < (x7.length : Int) then (if ((rd_T40 x7 x9).f0) = x1 then (net_For.l0 k x1 (wrap64 (x4 + 1)) x7 x8 (wrap64 (x9 + 1))) else (net_For.l0 k x1 x4 x7 x8 (wrap64 (x9 + 1)))) else (none)) else (none)) else (some x4)
def net_For.f (k : Nat) (l0 : List (S40)) (a1 : Int) : Option (Int) := net_For.l0 k a1 0 l0 (l0.length : Int) 0
theorem net_For.mono_l : ∀ k, (∀ y0 y1 y2 y3 y4, LeO (net_For.l0 k y0 y1 y2 y3 y4) (net_For.l0 (k + 1) y0 y1 y2 y3 y4))
  | 0 => fun _ _ _ _ _ r h => by simp [net_For.l0] at h
  | k + 1 => by
    have ih0 := net_For.mono_l k
    · intro y0 y1 y2 y3 y4
      unfold net_For.l0
      repeat' first
      | (with_reducible exact ih0 _ _ _ _ _)
      | (with_reducible exact LeO.refl _)
      | (with_reducible exact LeO.none _)
      | (with_reducible refine LeO.ite ?_ ?_)
      | (with_reducible refine LeO.bind ?_ (fun _ => ?_))
      | exact ih0 _ _ _ _ _
      | exact LeO.none _
      | refine LeO.ite ?_ ?_
      | refine LeO.bind ?_ (fun _ => ?_)
theorem net_For.mono : ∀ a0 a1 k, LeO (net_For.f k a0 a1) (net_For.f (k + 1) a0 a1) := by
  intro a0 a1 k
  have ih0 := net_For.mono_l k
  unfold net_For.f
  repeat' first
      | (with_reducible exact ih0 _ _ _ _ _)
      | (with_reducible exact LeO.refl _)
      | (with_reducible exact LeO.none _)
      | (with_reducible refine LeO.ite ?_ ?_)
      | (with_reducible refine LeO.bind ?_ (fun _ => ?_))
      | exact ih0 _ _ _ _ _
      | exact LeO.none _
      | refine LeO.ite ?_ ?_
      | refine LeO.bind ?_ (fun _ => ?_)
set_option maxHeartbeats 8000000 in
set_option maxRecDepth 100000 in
theorem net_For.calls (k : Nat) (A0 : Option Addr) (c0 : Nat) (l0 : List (S40)) (a1 : Int) (r : Int) (w : World) (hr0 : Kd.C k40 w A0 l0.length l0) (hc0 : l0.length ≤ c0) (h : net_For.f k l0 a1 = some r) :
    Calls Try.prog 39 #[.slice A0 l0.length c0, .int .i64 a1] w fun e w' => e = .returned (.int .i64 r) ∧ Below w.heap.size w w' := by
  have hu40 := Try.underlying40
  have HR0 := Aside0.mk hr0
  have HC0 := Aside0.mk hc0
  clear hr0 hc0
  have HB := Aside0.mk (Below.refl w.heap.size w)
  have H : (net_For.l0 k a1 0 l0 (l0.length : Int) 0) = some r := h
  clear h
  have H' := Aside0.mk H
  clear H
  go_enter Try.func39, Try.ntmps39
  go_wp2
  go_loopg [4, 9] k (fun kq v4 v9 w' => ∃ (x4_1 : Int) (x9_1 : Int), v4 = .int .i64 x4_1 ∧ v9 = .int .i64 x9_1 ∧ Aside0 (net_For.l0 kq a1 x4_1 l0 (l0.length : Int) x9_1 = some r) ∧ Aside0 (kq ≤ k) ∧ Aside0 (Below w.heap.size w w'))
  case atStart => exact ⟨(0), (0), (by first | rfl | (simp; done) | (simp [*]; done)), (by first | rfl | (simp; done) | (simp [*]; done)), H', ⟨Nat.le_refl _⟩, ⟨by repeat (first | (with_reducible first | exact HB.out | apply below_alloc | apply pw_below_drewN | apply below_drew1) | exact HB.out)⟩⟩
  case round =>
    clear H'
    try clear p2
    obtain ⟨x4_1, x9_1, rfl, rfl, HA, HK1, HB⟩ := hrel
    cases gk with
    | zero => exact absurd HA.out (by simp [net_For.l0])
    | succ k1 =>
      have H := HA.out
      clear HA
      simp only [net_For.l0] at H
      by_cases c3 : x9_1 < (l0.length : Int)
      · rw [if_pos c3] at H
        have c3b0 : decide (x9_1 < (l0.length : Int)) = true := decide_eq_true c3
        clear c3
        by_cases c4 : 0 ≤ x9_1
        · rw [if_pos c4] at H
          have c4b0 : decide (0 ≤ x9_1) = true := decide_eq_true c4
          clear c4
          by_cases c5 : x9_1 < (l0.length : Int)
          · rw [if_pos c5] at H
            have c5b0 : decide (x9_1 < (l0.length : Int)) = true := decide_eq_true c5
            clear c5
            by_cases c6 : ((rd_T40 l0 x9_1).f0) = a1
            · rw [if_pos c6] at H
              have c6b0 : (((rd_T40 l0 x9_1).f0) == a1) = true := beq_iff_eq.mpr c6
              have c6b1 : (((rd_T40 l0 x9_1).f0) != a1) = false := bne_eq_false_iff_eq.mpr c6
              clear c6
              have H' := Aside0.mk H
              clear H
              have p166 : 0 ≤ (x9_1 : Int) := of_decide_eq_true (by first | (with_reducible assumption) | assumption)
              have q166 : x9_1 < (l0.length : Int) := of_decide_eq_true (by first | (with_reducible assumption) | assumption)
              obtain ⟨ad166, A166_1, c166_1, e166, hx166_0, hx166_1, hl166_1, hi166_1⟩ := at_T40 HR0.out x9_1 p166 q166
              cases e166
              replace hx166_0 := (HB.out.cell (World.block_lt_of_cell? w _ hx166_0)).trans hx166_0
              replace hx166_1 := (HB.out.cell (World.block_lt_of_cell? w _ hx166_1)).trans hx166_1
              have HR166_1 := Aside0.mk hi166_1
              have HC166_1 := Aside0.mk hl166_1
              clear hi166_1 hl166_1
              replace p166 := eq_true p166; (try (have p166s := p166; rw [List.length_drop] at p166s)); (try (have p166t := p166; rw [List.length_take] at p166t))
              replace q166 := eq_true q166; (try (have q166s := q166; rw [List.length_drop] at q166s)); (try (have q166t := q166; rw [List.length_take] at q166t))
              go_wp2_with (first | ((with_reducible refine gate_dst (N := 6) rfl ?_); refine box_event ?hg (N := 6) ?hd (cs := #[.int .i64 0, .slice none 0 0]) (t := 40) ?hr ?_; (case hd => rfl); (case hg => rfl); (case hr => first | (go_simp; done) | (go_simp; rfl)); intro gb167 hg w7 hbox hb; have n0_ := Aside0.mk (below_step (by repeat (first | (with_reducible first | exact HB.out | apply below_alloc | apply pw_below_drewN | apply below_drew1) | exact HB.out)) hb); have n1_ := Aside0.mk (hbox); have n2_ := Aside0.mk ((by rw [hg]; exact (below_size (by repeat (first | (with_reducible first | exact HB.out | apply below_alloc | apply pw_below_drewN | apply below_drew1) | exact HB.out))) : w.heap.size ≤ gb167)); have n3_ := Aside0.mk ((by rw [hg]; exact (below_size (by repeat (first | (with_reducible first | exact HB.out | apply below_alloc | apply pw_below_drewN | apply below_drew1) | exact HB.out))) : w.heap.size ≤ gb167)); clear HB; have HB := n0_; have BK167 := n1_; have GW167 := n2_; have GE167 := n3_; clear n0_ n1_ n2_ n3_; clear hb hbox hg; have hcz8_0 : w7.cell? ⟨gb167, 0, none⟩ = some (.int .i64 0) := (blk_cell BK167.out 0).trans rfl; have hcz8_1 : w7.cell? ⟨gb167, 1, none⟩ = some (.slice none 0 0) := (blk_cell BK167.out 1).trans rfl; have hfz8_0 := blk_frozen BK167.out 0; have hfz8_1 := blk_frozen BK167.out 1))
              go_roundg k1
              case measure => have := HK1.out; omega
              case rel => exact ⟨(wrap64 (x4_1 + 1)), (wrap64 (x9_1 + 1)), (by first | rfl | (simp; done) | (simp [*]; done)), (by first | rfl | (simp; done) | (simp [*]; done)), H', ⟨by have := HK1.out; omega⟩, ⟨by repeat (first | (with_reducible first | exact HB.out | apply below_alloc | apply pw_below_drewN | apply below_drew1 | refine below_set ?_ GE167.out) | exact HB.out)⟩⟩
            · rw [if_neg c6] at H
              have c6b0 : (((rd_T40 l0 x9_1).f0) == a1) = false := beq_eq_false_iff_ne.mpr c6
              have c6b1 : (((rd_T40 l0 x9_1).f0) != a1) = true := bne_iff_ne.mpr c6
              have H' := Aside0.mk H
              clear H
              have p166 : 0 ≤ (x9_1 : Int) := of_decide_eq_true (by first | (with_reducible assumption) | assumption)
              have q166 : x9_1 < (l0.length : Int) := of_decide_eq_true (by first | (with_reducible assumption) | assumption)
              obtain ⟨ad166, A166_1, c166_1, e166, hx166_0, hx166_1, hl166_1, hi166_1⟩ := at_T40 HR0.out x9_1 p166 q166
              cases e166
              replace hx166_0 := (HB.out.cell (World.block_lt_of_cell? w _ hx166_0)).trans hx166_0
              replace hx166_1 := (HB.out.cell (World.block_lt_of_cell? w _ hx166_1)).trans hx166_1
              have HR166_1 := Aside0.mk hi166_1
              have HC166_1 := Aside0.mk hl166_1
              clear hi166_1 hl166_1
              replace p166 := eq_true p166; (try (have p166s := p166; rw [List.length_drop] at p166s)); (try (have p166t := p166; rw [List.length_take] at p166t))
              replace q166 := eq_true q166; (try (have q166s := q166; rw [List.length_drop] at q166s)); (try (have q166t := q166; rw [List.length_take] at q166t))
              go_wp2_with (first | ((with_reducible refine gate_dst (N := 6) rfl ?_); refine box_event ?hg (N := 6) ?hd (cs := #[.int .i64 0, .slice none 0 0]) (t := 40) ?hr ?_; (case hd => rfl); (case hg => rfl); (case hr => first | (go_simp; done) | (go_simp; rfl)); intro gb167 hg w9 hbox hb; have n0_ := Aside0.mk (below_step (by repeat (first | (with_reducible first | exact HB.out | apply below_alloc | apply pw_below_drewN | apply below_drew1) | exact HB.out)) hb); have n1_ := Aside0.mk (hbox); have n2_ := Aside0.mk ((by rw [hg]; exact (below_size (by repeat (first | (with_reducible first | exact HB.out | apply below_alloc | apply pw_below_drewN | apply below_drew1) | exact HB.out))) : w.heap.size ≤ gb167)); have n3_ := Aside0.mk ((by rw [hg]; exact (below_size (by repeat (first | (with_reducible first | exact HB.out | apply below_alloc | apply pw_below_drewN | apply below_drew1) | exact HB.out))) : w.heap.size ≤ gb167)); clear HB; have HB := n0_; have BK167 := n1_; have GW167 := n2_; have GE167 := n3_; clear n0_ n1_ n2_ n3_; clear hb hbox hg; have hcz10_0 : w9.cell? ⟨gb167, 0, none⟩ = some (.int .i64 0) := (blk_cell BK167.out 0).trans rfl; have hcz10_1 : w9.cell? ⟨gb167, 1, none⟩ = some (.slice none 0 0) := (blk_cell BK167.out 1).trans rfl; have hfz10_0 := blk_frozen BK167.out 0; have hfz10_1 := blk_frozen BK167.out 1))
              go_roundg k1
              case measure => have := HK1.out; omega
              case rel => exact ⟨(x4_1), (wrap64 (x9_1 + 1)), (by first | rfl | (simp; done) | (simp [*]; done)), (by first | rfl | (simp; done) | (simp [*]; done)), H', ⟨by have := HK1.out; omega⟩, ⟨by repeat (first | (with_reducible first | exact HB.out | apply below_alloc | apply pw_below_drewN | apply below_drew1 | refine below_set ?_ GE167.out) | exact HB.out)⟩⟩
          · rw [if_neg c5] at H
            exact absurd H (by simp)
        · rw [if_neg c4] at H
          exact absurd H (by simp)
      · rw [if_neg c3] at H
        have c3b0 : decide (x9_1 < (l0.length : Int)) = false := decide_eq_false c3
        clear c3
        obtain rfl := Option.some.inj H
        go_wp2
        go_ret
        exact ⟨by first | rfl | (simp [errW_none, errW_some] <;> rfl) | (simp [*, errW_none, errW_some] <;> rfl), by repeat (first | (with_reducible first | exact HB.out | apply below_alloc | apply pw_below_drewN | apply below_drew1) | exact HB.out)⟩

/-! ### thrumlaw21_live: function 20 -/
def thrumlaw21_live.f (k : Nat)  : Option (Bool) := (net_Send.f k ([] : List (S40)) (([(⟨1, (([97] : List Int))⟩ : S40), (⟨2, ([] : List Int)⟩ : S40)] : List (S40)))).bind fun bt174 => ((net_Give.f k bt174.1 0).bind fun bt178 => (if bt174.2 = 0 then (if bt178.2.2.2 = 0 then (if bt178.1 = 1 then (if (bt178.2.2.1.length : Int) = 1 then ((net_For.f k bt178.2.2.1 2).bind fun t187 => (some (t187 == 1))) else (some false)) else (some false)) else (some false)) else (some false)))
theorem thrumlaw21_live.mono : ∀ k, LeO (thrumlaw21_live.f k ) (thrumlaw21_live.f (k + 1) ) := by
  intro  k
  unfold thrumlaw21_live.f
  repeat' first
      | (with_reducible exact net_For.mono _ _ _)
      | (with_reducible exact net_Give.mono _ _ _)
      | (with_reducible exact net_Send.mono _ _ _)
      | (with_reducible exact LeO.refl _)
      | (with_reducible exact LeO.none _)
      | (with_reducible refine LeO.ite ?_ ?_)
      | (with_reducible refine LeO.bind ?_ (fun _ => ?_))
      | exact net_For.mono _ _ _
      | exact net_Give.mono _ _ _
      | exact net_Send.mono _ _ _
      | exact LeO.none _
      | refine LeO.ite ?_ ?_
      | refine LeO.bind ?_ (fun _ => ?_)
set_option maxHeartbeats 8000000 in
set_option maxRecDepth 100000 in
theorem thrumlaw21_live.calls (k : Nat)  (r : Bool) (w : World) (h : thrumlaw21_live.f k  = some r) :
    Calls Try.prog 20 #[] w fun e w' => e = .returned (.bool r) ∧ Below w.heap.size w w' := by
  have hu40 := Try.underlying40
  have hcv_ : (convert 26 26 (.slice (some ⟨w.heap.size, 0, none⟩) 1 1)).run Try.prog (w.alloc (.cells #[.int .u8 97] 5)) = .ok (.slice (some ⟨w.heap.size, 0, none⟩) 1 1) (w.alloc (.cells #[.int .u8 97] 5 (1, 2))) := Go.Lib.run_convert_bytes_const w 26 5 #[.int .u8 97] 1 1 Try.underlying26 Try.underlying5
  have HB := Aside0.mk (Below.refl w.heap.size w)
  have H : ((net_Send.f k ([] : List (S40)) (([(⟨1, (([97] : List Int))⟩ : S40), (⟨2, ([] : List Int)⟩ : S40)] : List (S40)))).bind fun bt174 => ((net_Give.f k bt174.1 0).bind fun bt178 => (if bt174.2 = 0 then (if bt178.2.2.2 = 0 then (if bt178.1 = 1 then (if (bt178.2.2.1.length : Int) = 1 then ((net_For.f k bt178.2.2.1 2).bind fun t187 => (some (t187 == 1))) else (some false)) else (some false)) else (some false)) else (some false)))) = some r := h
  clear h
  obtain ⟨y168, hy168⟩ : ∃ y_ : List Int, y_ = (([97] : List Int)) := ⟨_, rfl⟩
  replace H : ((net_Send.f k ([] : List (S40)) (([(⟨1, y168⟩ : S40), (⟨2, ([] : List Int)⟩ : S40)] : List (S40)))).bind fun bt174 => ((net_Give.f k bt174.1 0).bind fun bt178 => (if bt174.2 = 0 then (if bt178.2.2.2 = 0 then (if bt178.1 = 1 then (if (bt178.2.2.1.length : Int) = 1 then ((net_For.f k bt178.2.2.1 2).bind fun t187 => (some (t187 == 1))) else (some false)) else (some false)) else (some false)) else (some false)))) = some r := by first | (rw [hy168]; with_reducible exact H) | (have H2_ := (Option.bind_some _ _).symm.trans H; rw [hy168]; with_reducible exact H2_) | (have H2_ := (Option.bind_some _ _).symm.trans H; with_reducible exact H2_) | with_reducible exact H | (rw [hy168]; exact H) | exact H
  have Ny168 := Aside0.mk hy168
  clear hy168
  obtain ⟨y171, hy171⟩ : ∃ y_ : List (S40), y_ = (([(⟨1, y168⟩ : S40), (⟨2, ([] : List Int)⟩ : S40)] : List (S40))) := ⟨_, rfl⟩
  replace H : ((net_Send.f k ([] : List (S40)) y171).bind fun bt174 => ((net_Give.f k bt174.1 0).bind fun bt178 => (if bt174.2 = 0 then (if bt178.2.2.2 = 0 then (if bt178.1 = 1 then (if (bt178.2.2.1.length : Int) = 1 then ((net_For.f k bt178.2.2.1 2).bind fun t187 => (some (t187 == 1))) else (some false)) else (some false)) else (some false)) else (some false)))) = some r := by first | (rw [hy171]; with_reducible exact H) | (have H2_ := (Option.bind_some _ _).symm.trans H; rw [hy171]; with_reducible exact H2_) | (have H2_ := (Option.bind_some _ _).symm.trans H; with_reducible exact H2_) | with_reducible exact H | (rw [hy171]; exact H) | exact H
  have Ny171 := Aside0.mk hy171
  clear hy171
  replace H := Option.bind_eq_some_iff.mp H
  obtain ⟨⟨t174, t177⟩, A10, H⟩ := H
  replace H : ((net_Give.f k t174 0).bind fun bt178 => (if t177 = 0 then (if bt178.2.2.2 = 0 then (if bt178.1 = 1 then (if (bt178.2.2.1.length : Int) = 1 then ((net_For.f k bt178.2.2.1 2).bind fun t187 => (some (t187 == 1))) else (some false)) else (some false)) else (some false)) else (some false))) = some r := H
  have A1 := Aside0.mk A10
  clear A10
  replace H := Option.bind_eq_some_iff.mp H
  obtain ⟨⟨t178, t179, t182, t185⟩, A20, H⟩ := H
  replace H : (if t177 = 0 then (if t185 = 0 then (if t178 = 1 then (if (t182.length : Int) = 1 then ((net_For.f k t182 2).bind fun t187 => (some (t187 == 1))) else (some false)) else (some false)) else (some false)) else (some false)) = some r := H
  have A2 := Aside0.mk A20
  clear A20
  by_cases c3 : t177 = 0
  · rw [if_pos c3] at H
    have c3b0 : (t177 == 0) = true := beq_iff_eq.mpr c3
    have c3b1 : (t177 != 0) = false := bne_eq_false_iff_eq.mpr c3
    clear c3
    by_cases c4 : t185 = 0
    · rw [if_pos c4] at H
      have c4b0 : (t185 == 0) = true := beq_iff_eq.mpr c4
      have c4b1 : (t185 != 0) = false := bne_eq_false_iff_eq.mpr c4
      clear c4
      by_cases c5 : t178 = 1
      · rw [if_pos c5] at H
        have c5b0 : (t178 == 1) = true := beq_iff_eq.mpr c5
        have c5b1 : (t178 != 1) = false := bne_eq_false_iff_eq.mpr c5
        clear c5
        by_cases c6 : (t182.length : Int) = 1
        · rw [if_pos c6] at H
          have c6b0 : ((t182.length : Int) == 1) = true := beq_iff_eq.mpr c6
          have c6b1 : ((t182.length : Int) != 1) = false := bne_eq_false_iff_eq.mpr c6
          clear c6
          replace H := Option.bind_eq_some_iff.mp H
          obtain ⟨t187, A70, H⟩ := H
          replace H : (some (t187 == 1)) = some r := H
          have A7 := Aside0.mk A70
          clear A70
          obtain rfl := Option.some.inj H
          go_enter Try.func20, Try.ntmps20
          go_wp2_with (first | ((with_reducible refine gate_dst (N := 11) rfl ?_); generalize hw8_ : w.alloc (Obj.cells #[.int .u8 97] 5 (1, 2)) = w8; have HF8 := Aside0.mk (lit_F hw8_ Ny168.out); have HB8 := Aside0.mk (box_below hw8_); clear hw8_ hcv_ HB; have HB := HB8; clear HB8; (try (refine gate_guard (by rfl) ?_; dsimp only)); refine Kd.N_lit k40 _ 40 ?hg (N' := 11) ?hd (xs := ([(⟨1, y168⟩ : S40), (⟨2, ([] : List Int)⟩ : S40)] : List (S40))) (inner := [.int .i64 1, .slice (some ⟨w.heap.size, 0, none⟩) 1 1, .int .i64 2, .slice none 0 0]) (ok := (fun _ => True)) (okp := (fun _ => True)) ?hr ?hp (fun _ hk => hk) ((show ∀ k_, w8.heap.size ≤ k_ → (fun _ => True) k_ from fun k_ hk => trivial) _ (Nat.le_refl _)) (Below.refl _ _) (Nat.le_refl _) (by simp) ?_; (case hd => rfl); (case hg => rfl); (case hr => first | (go_simp; done) | (go_simp; rfl)); (case hp => exact (Reps.c2 (lit_FK HF8.out Ny168.out) (Reps.c2 (show Kd.FK k40 _ _ (⟨2, ([] : List Int)⟩ : S40) [.int .i64 2, .slice none 0 0] from (k40_mkF _ _ (⟨2, ([] : List Int)⟩ : S40) (Nat.le_refl _) (Kd.F_nil _ _ _))) (Reps.none _ _)))); intro v172 w11 ho12 hb hg_ hnew_; clear hg_ hnew_; (first | rw [← Ny171.out] at ho12 | (simp only [Int.reduceToNat] at ho12; rw [← Ny171.out] at ho12)); have n0_ := Aside0.mk (Kd.N_lower ho12 (below_size (by repeat (first | (with_reducible first | exact HB.out | apply below_alloc | apply pw_below_drewN | apply below_drew1) | exact HB.out)))); have n1_ := Aside0.mk (below_step (by repeat (first | (with_reducible first | exact HB.out | apply below_alloc | apply pw_below_drewN | apply below_drew1) | exact HB.out)) hb); clear HB; have HO173 := n0_; have HB := n1_; clear n0_ n1_; clear hb ho12; obtain ⟨Ao13, co13, eo13⟩ := Kd.N_slice HO173.out; subst eo13) | ((with_reducible refine gate_callee (f := 22) rfl ?_); refine goesL_ (some 12) rfl rfl Try.func22 (by kernel_rfl) rfl #[.slice none 0 0, .slice Ao13 y171.length co13] rfl (by (try simp only [List.map_toArray, List.map_cons, List.map_nil]); first | done | rfl | (simp only [List.length_drop, List.length_take]; rfl)) ?_; (refine (net_Send.calls k _ _ ([] : List (S40)) _ _ y171 t174 t177 _ ?side1 ?side2 ?side3 ?side4 A1.out).mono ?_); (case side1 => exact Kd.C_nil _ _); (case side2 => exact Nat.le_refl _); (case side3 => repeat (first | exact (Kd.N_reads' HO173.out).2.2 | (with_reducible refine Kd.C_alloc ?_ _) | (with_reducible refine Kd.C_drewN ?_ _) | (with_reducible refine Kd.C_drew ?_))); (case side4 => exact (Kd.N_reads' HO173.out).2.1); rintro e w14 ⟨v175, rfl, ho0, hb⟩; refine ⟨_, rfl, ?_⟩; have n0_ := Aside0.mk (Kd.N_elder' (by (with_reducible repeat (first | apply Kd.N_alloc | apply Kd.N_drewN | apply Kd.N_drew)); exact HO173.out) (by first | exact Kd.N_base ho0 | exact Kd.S_base ho0) hb); have n1_ := Aside0.mk (Kd.N_lower (Kd.N_mono (ok' := fun k_ => some k_ ≠ (.slice Ao13 y171.length co13 : Value).ownBlock) ho0 (fun k_ hk_ => (Kd.fresh' (Kd.N_lt (by (with_reducible repeat (first | apply Kd.N_alloc | apply Kd.N_drewN | apply Kd.N_drew)); exact HO173.out)) k_ hk_))) (below_size (by repeat (first | (with_reducible first | exact HB.out | apply below_alloc | apply pw_below_drewN | apply below_drew1) | exact HB.out)))); have n2_ := Aside0.mk (below_step (by repeat (first | (with_reducible first | exact HB.out | apply below_alloc | apply pw_below_drewN | apply below_drew1) | exact HB.out)) hb); clear HO173; clear HB; have HO173 := n0_; have HO176 := n1_; have HB := n2_; clear n0_ n1_ n2_; (try clear hb); (try clear hb2); (try clear hk); (try clear hi); (try clear ho0); obtain ⟨Ao15, co15, eo15⟩ := Kd.N_slice HO176.out; subst eo15) | ((with_reducible refine gate_callee (f := 24) rfl ?_); refine goesL_ (some 17) rfl rfl Try.func24 (by kernel_rfl) rfl #[.slice Ao15 t174.length co15, .int .i64 0] rfl (by (try simp only [List.map_toArray, List.map_cons, List.map_nil]); first | done | rfl | (simp only [List.length_drop, List.length_take]; rfl)) ?_; (with_reducible refine (net_Give.calls k _ _ t174 0 t178 t179 t182 t185 _ ?side1 ?side2 A2.out).mono ?_); (case side1 => repeat (first | exact (Kd.N_reads' HO176.out).2.2 | (with_reducible refine Kd.C_alloc ?_ _) | (with_reducible refine Kd.C_drewN ?_ _) | (with_reducible refine Kd.C_drew ?_))); (case side2 => exact (Kd.N_reads' HO176.out).2.1); rintro e w16 ⟨v180, v183, rfl, ho0, ho1, hb⟩; refine ⟨_, rfl, ?_⟩; have n0_ := Aside0.mk (Kd.N_elder' (by (with_reducible repeat (first | apply Kd.N_alloc | apply Kd.N_drewN | apply Kd.N_drew)); exact HO173.out) (Kd.N_base ho1) hb); have n1_ := Aside0.mk (Kd.N_elder' (by (with_reducible repeat (first | apply Kd.N_alloc | apply Kd.N_drewN | apply Kd.N_drew)); exact HO176.out) (Kd.N_base ho1) hb); have n2_ := Aside0.mk (Kd.V_lower (Kd.V_mono (ok' := fun k_ => some k_ ≠ (v183 : Value).ownBlock ∧ some k_ ≠ (.slice Ao13 y171.length co13 : Value).ownBlock ∧ some k_ ≠ (.slice Ao15 t174.length co15 : Value).ownBlock) ho0 (fun k_ hk_ => ⟨hk_.2, (Kd.fresh' (Kd.N_lt (by (with_reducible repeat (first | apply Kd.N_alloc | apply Kd.N_drewN | apply Kd.N_drew)); exact HO173.out)) k_ hk_.1), (Kd.fresh' (Kd.N_lt (by (with_reducible repeat (first | apply Kd.N_alloc | apply Kd.N_drewN | apply Kd.N_drew)); exact HO176.out)) k_ hk_.1)⟩)) (below_size (by repeat (first | (with_reducible first | exact HB.out | apply below_alloc | apply pw_below_drewN | apply below_drew1) | exact HB.out)))); have n3_ := Aside0.mk (Kd.N_lower (Kd.N_mono (ok' := fun k_ => some k_ ≠ (.slice Ao13 y171.length co13 : Value).ownBlock ∧ some k_ ≠ (.slice Ao15 t174.length co15 : Value).ownBlock) ho1 (fun k_ hk_ => ⟨(Kd.fresh' (Kd.N_lt (by (with_reducible repeat (first | apply Kd.N_alloc | apply Kd.N_drewN | apply Kd.N_drew)); exact HO173.out)) k_ hk_), (Kd.fresh' (Kd.N_lt (by (with_reducible repeat (first | apply Kd.N_alloc | apply Kd.N_drewN | apply Kd.N_drew)); exact HO176.out)) k_ hk_)⟩)) (below_size (by repeat (first | (with_reducible first | exact HB.out | apply below_alloc | apply pw_below_drewN | apply below_drew1) | exact HB.out)))); have n4_ := Aside0.mk (below_step (by repeat (first | (with_reducible first | exact HB.out | apply below_alloc | apply pw_below_drewN | apply below_drew1) | exact HB.out)) hb); clear HO173; clear HO176; clear HB; have HO173 := n0_; have HO176 := n1_; have HO181 := n2_; have HO184 := n3_; have HB := n4_; clear n0_ n1_ n2_ n3_ n4_; (try clear hb); (try clear hb2); (try clear hk); (try clear hi); (try clear ho0); (try clear ho1)) | ((with_reducible refine gate_dst (N := 3) rfl ?_); (try (refine gate_guard (by rfl) ?_; dsimp only)); refine box_event ?hg (N := 3) ?hd (cs := #[.int .i64 0, .slice none 0 0]) (t := 40) ?hr ?_; (case hd => rfl); (case hg => rfl); (case hr => first | (go_simp; done) | (go_simp; rfl)); intro gb186 hg w17 hbox hb; have n0_ := Aside0.mk (Kd.N_below (Kd.N_elderB (by (with_reducible repeat (first | apply Kd.N_alloc | apply Kd.N_drewN | apply Kd.N_drew)); exact HO173.out) gb186 (Nat.le_of_eq hg.symm)) hb); have n1_ := Aside0.mk (Kd.N_below (Kd.N_elderB (by (with_reducible repeat (first | apply Kd.N_alloc | apply Kd.N_drewN | apply Kd.N_drew)); exact HO176.out) gb186 (Nat.le_of_eq hg.symm)) hb); have n2_ := Aside0.mk (Kd.V_below (Kd.V_elderB (by (with_reducible repeat (first | apply Kd.V_alloc | apply Kd.V_drewN | apply Kd.V_drew)); exact HO181.out) gb186 (Nat.le_of_eq hg.symm)) hb); have n3_ := Aside0.mk (Kd.N_below (Kd.N_elderB (by (with_reducible repeat (first | apply Kd.N_alloc | apply Kd.N_drewN | apply Kd.N_drew)); exact HO184.out) gb186 (Nat.le_of_eq hg.symm)) hb); have n4_ := Aside0.mk (below_step (by repeat (first | (with_reducible first | exact HB.out | apply below_alloc | apply pw_below_drewN | apply below_drew1) | exact HB.out)) hb); have n5_ := Aside0.mk (hbox); have n6_ := Aside0.mk ((by rw [hg]; exact (below_size (by repeat (first | (with_reducible first | exact HB.out | apply below_alloc | apply pw_below_drewN | apply below_drew1) | exact HB.out))) : w.heap.size ≤ gb186)); have n7_ := Aside0.mk ((by rw [hg]; exact (below_size (by repeat (first | (with_reducible first | exact HB.out | apply below_alloc | apply pw_below_drewN | apply below_drew1) | exact HB.out))) : w.heap.size ≤ gb186)); clear HO173; clear HO176; clear HO181; clear HO184; clear HB; have HO173 := n0_; have HO176 := n1_; have HO181 := n2_; have HO184 := n3_; have HB := n4_; have BK186 := n5_; have GW186 := n6_; have GE186 := n7_; clear n0_ n1_ n2_ n3_ n4_ n5_ n6_ n7_; clear hb hbox hg; have hcz18_0 : w17.cell? ⟨gb186, 0, none⟩ = some (.int .i64 0) := (blk_cell BK186.out 0).trans rfl; have hcz18_1 : w17.cell? ⟨gb186, 1, none⟩ = some (.slice none 0 0) := (blk_cell BK186.out 1).trans rfl; have hfz18_0 := blk_frozen BK186.out 0; have hfz18_1 := blk_frozen BK186.out 1; obtain ⟨Ao19, co19, eo19⟩ := Kd.V_slice HO181.out; subst eo19; obtain ⟨Ao20, co20, eo20⟩ := Kd.N_slice HO184.out; subst eo20) | (go_at_call 39; (with_reducible refine (net_For.calls k _ _ t182 2 t187 _ ?side1 ?side2 A7.out).mono ?_); (case side1 => refine (Kd.N_reads' (e := 40) (base := w.heap.size) (ok := fun k_ => ((some k_ ≠ (.slice Ao13 y171.length co13 : Value).ownBlock ∧ some k_ ≠ (.slice Ao15 t174.length co15 : Value).ownBlock) ∧ k_ ≠ gb186)) (n := t182.length) (c := co20) ?_).2.2; exact (by (with_reducible repeat (first | apply Kd.N_alloc | apply Kd.N_drewN | apply Kd.N_drew)); exact (Kd.N_mono (Kd.N_far (p := ⟨gb186, 1, none⟩) (Kd.N_far (p := ⟨gb186, 0, none⟩) (Kd.N_mono HO184.out (fun k_ hk => (⟨hk, hk.2⟩ : _ ∧ k_ ≠ gb186))) (fun _ hk => hk.2) (.int .i64 t178)) (fun _ hk => hk.2) (.slice Ao19 t179.length co19)) (fun _ h_ => h_.1)))); (case side2 => exact (Kd.N_reads' HO184.out).2.1); rintro e w21 ⟨rfl, hb⟩; have n0_ := Aside0.mk (Kd.N_below (by (with_reducible repeat (first | apply Kd.N_alloc | apply Kd.N_drewN | apply Kd.N_drew)); exact (Kd.N_mono (Kd.N_far (p := ⟨gb186, 1, none⟩) (Kd.N_far (p := ⟨gb186, 0, none⟩) (Kd.N_mono HO173.out (fun k_ hk => (⟨hk, hk.2⟩ : _ ∧ k_ ≠ gb186))) (fun _ hk => hk.2) (.int .i64 t178)) (fun _ hk => hk.2) (.slice Ao19 t179.length co19)) (fun _ h_ => h_.1))) hb); have n1_ := Aside0.mk (Kd.N_below (by (with_reducible repeat (first | apply Kd.N_alloc | apply Kd.N_drewN | apply Kd.N_drew)); exact (Kd.N_mono (Kd.N_far (p := ⟨gb186, 1, none⟩) (Kd.N_far (p := ⟨gb186, 0, none⟩) (Kd.N_mono HO176.out (fun k_ hk => (⟨hk, hk.2⟩ : _ ∧ k_ ≠ gb186))) (fun _ hk => hk.2) (.int .i64 t178)) (fun _ hk => hk.2) (.slice Ao19 t179.length co19)) (fun _ h_ => h_.1))) hb); have n2_ := Aside0.mk (Kd.V_below (by (with_reducible repeat (first | apply Kd.V_alloc | apply Kd.V_drewN | apply Kd.V_drew)); exact (Kd.V_mono (Kd.V_far (p := ⟨gb186, 1, none⟩) (Kd.V_far (p := ⟨gb186, 0, none⟩) (Kd.V_mono HO181.out (fun k_ hk => (⟨hk, hk.2⟩ : _ ∧ k_ ≠ gb186))) (fun _ hk => hk.2) (.int .i64 t178)) (fun _ hk => hk.2) (.slice Ao19 t179.length co19)) (fun _ h_ => h_.1))) hb); have n3_ := Aside0.mk (Kd.N_below (by (with_reducible repeat (first | apply Kd.N_alloc | apply Kd.N_drewN | apply Kd.N_drew)); exact (Kd.N_mono (Kd.N_far (p := ⟨gb186, 1, none⟩) (Kd.N_far (p := ⟨gb186, 0, none⟩) (Kd.N_mono HO184.out (fun k_ hk => (⟨hk, hk.2⟩ : _ ∧ k_ ≠ gb186))) (fun _ hk => hk.2) (.int .i64 t178)) (fun _ hk => hk.2) (.slice Ao19 t179.length co19)) (fun _ h_ => h_.1))) hb); have n4_ := Aside0.mk (blk_below (g := gb186) (o := .cells #[.int .i64 t178, .slice Ao19 t179.length co19] 40 (0, 0)) (by (with_reducible repeat (first | refine blk_drewN ?_ _ | refine blk_drew ?_ | refine blk_alloc ?_ _)); refine blk_put (cs := #[.int .i64 t178, .slice none 0 0]) ?_ 1 _ rfl; (with_reducible repeat (first | refine blk_drewN ?_ _ | refine blk_drew ?_ | refine blk_alloc ?_ _)); refine blk_put (cs := #[.int .i64 0, .slice none 0 0]) ?_ 0 _ rfl; (with_reducible repeat (first | refine blk_drewN ?_ _ | refine blk_drew ?_ | refine blk_alloc ?_ _)); exact BK186.out) hb); have n5_ := Aside0.mk (below_step (by repeat (first | (with_reducible first | exact HB.out | apply below_alloc | apply pw_below_drewN | apply below_drew1 | refine below_set ?_ GE186.out) | exact HB.out)) hb); clear HO173; clear HO176; clear HO181; clear HO184; clear BK186; clear HB; have HO173 := n0_; have HO176 := n1_; have HO181 := n2_; have HO184 := n3_; have BK186 := n4_; have HB := n5_; clear n0_ n1_ n2_ n3_ n4_ n5_; (try clear hb); (try clear hb2); (try clear hk); (try clear hi)))
          go_ret
          exact ⟨by first | rfl | (simp [errW_none, errW_some] <;> rfl) | (simp [*, errW_none, errW_some] <;> rfl), by repeat (first | (with_reducible first | exact HB.out | apply below_alloc | apply pw_below_drewN | apply below_drew1 | refine below_set ?_ GE186.out) | exact HB.out)⟩
        · rw [if_neg c6] at H
          have c6b0 : ((t182.length : Int) == 1) = false := beq_eq_false_iff_ne.mpr c6
          have c6b1 : ((t182.length : Int) != 1) = true := bne_iff_ne.mpr c6
          obtain rfl := Option.some.inj H
          go_enter Try.func20, Try.ntmps20
          go_wp2_with (first | ((with_reducible refine gate_dst (N := 11) rfl ?_); generalize hw8_ : w.alloc (Obj.cells #[.int .u8 97] 5 (1, 2)) = w8; have HF8 := Aside0.mk (lit_F hw8_ Ny168.out); have HB8 := Aside0.mk (box_below hw8_); clear hw8_ hcv_ HB; have HB := HB8; clear HB8; (try (refine gate_guard (by rfl) ?_; dsimp only)); refine Kd.N_lit k40 _ 40 ?hg (N' := 11) ?hd (xs := ([(⟨1, y168⟩ : S40), (⟨2, ([] : List Int)⟩ : S40)] : List (S40))) (inner := [.int .i64 1, .slice (some ⟨w.heap.size, 0, none⟩) 1 1, .int .i64 2, .slice none 0 0]) (ok := (fun _ => True)) (okp := (fun _ => True)) ?hr ?hp (fun _ hk => hk) ((show ∀ k_, w8.heap.size ≤ k_ → (fun _ => True) k_ from fun k_ hk => trivial) _ (Nat.le_refl _)) (Below.refl _ _) (Nat.le_refl _) (by simp) ?_; (case hd => rfl); (case hg => rfl); (case hr => first | (go_simp; done) | (go_simp; rfl)); (case hp => exact (Reps.c2 (lit_FK HF8.out Ny168.out) (Reps.c2 (show Kd.FK k40 _ _ (⟨2, ([] : List Int)⟩ : S40) [.int .i64 2, .slice none 0 0] from (k40_mkF _ _ (⟨2, ([] : List Int)⟩ : S40) (Nat.le_refl _) (Kd.F_nil _ _ _))) (Reps.none _ _)))); intro v172 w25 ho26 hb hg_ hnew_; clear hg_ hnew_; (first | rw [← Ny171.out] at ho26 | (simp only [Int.reduceToNat] at ho26; rw [← Ny171.out] at ho26)); have n0_ := Aside0.mk (Kd.N_lower ho26 (below_size (by repeat (first | (with_reducible first | exact HB.out | apply below_alloc | apply pw_below_drewN | apply below_drew1) | exact HB.out)))); have n1_ := Aside0.mk (below_step (by repeat (first | (with_reducible first | exact HB.out | apply below_alloc | apply pw_below_drewN | apply below_drew1) | exact HB.out)) hb); clear HB; have HO173 := n0_; have HB := n1_; clear n0_ n1_; clear hb ho26; obtain ⟨Ao27, co27, eo27⟩ := Kd.N_slice HO173.out; subst eo27) | ((with_reducible refine gate_callee (f := 22) rfl ?_); refine goesL_ (some 12) rfl rfl Try.func22 (by kernel_rfl) rfl #[.slice none 0 0, .slice Ao27 y171.length co27] rfl (by (try simp only [List.map_toArray, List.map_cons, List.map_nil]); first | done | rfl | (simp only [List.length_drop, List.length_take]; rfl)) ?_; (refine (net_Send.calls k _ _ ([] : List (S40)) _ _ y171 t174 t177 _ ?side1 ?side2 ?side3 ?side4 A1.out).mono ?_); (case side1 => exact Kd.C_nil _ _); (case side2 => exact Nat.le_refl _); (case side3 => repeat (first | exact (Kd.N_reads' HO173.out).2.2 | (with_reducible refine Kd.C_alloc ?_ _) | (with_reducible refine Kd.C_drewN ?_ _) | (with_reducible refine Kd.C_drew ?_))); (case side4 => exact (Kd.N_reads' HO173.out).2.1); rintro e w28 ⟨v175, rfl, ho0, hb⟩; refine ⟨_, rfl, ?_⟩; have n0_ := Aside0.mk (Kd.N_elder' (by (with_reducible repeat (first | apply Kd.N_alloc | apply Kd.N_drewN | apply Kd.N_drew)); exact HO173.out) (by first | exact Kd.N_base ho0 | exact Kd.S_base ho0) hb); have n1_ := Aside0.mk (Kd.N_lower (Kd.N_mono (ok' := fun k_ => some k_ ≠ (.slice Ao27 y171.length co27 : Value).ownBlock) ho0 (fun k_ hk_ => (Kd.fresh' (Kd.N_lt (by (with_reducible repeat (first | apply Kd.N_alloc | apply Kd.N_drewN | apply Kd.N_drew)); exact HO173.out)) k_ hk_))) (below_size (by repeat (first | (with_reducible first | exact HB.out | apply below_alloc | apply pw_below_drewN | apply below_drew1) | exact HB.out)))); have n2_ := Aside0.mk (below_step (by repeat (first | (with_reducible first | exact HB.out | apply below_alloc | apply pw_below_drewN | apply below_drew1) | exact HB.out)) hb); clear HO173; clear HB; have HO173 := n0_; have HO176 := n1_; have HB := n2_; clear n0_ n1_ n2_; (try clear hb); (try clear hb2); (try clear hk); (try clear hi); (try clear ho0); obtain ⟨Ao29, co29, eo29⟩ := Kd.N_slice HO176.out; subst eo29) | ((with_reducible refine gate_callee (f := 24) rfl ?_); refine goesL_ (some 17) rfl rfl Try.func24 (by kernel_rfl) rfl #[.slice Ao29 t174.length co29, .int .i64 0] rfl (by (try simp only [List.map_toArray, List.map_cons, List.map_nil]); first | done | rfl | (simp only [List.length_drop, List.length_take]; rfl)) ?_; (with_reducible refine (net_Give.calls k _ _ t174 0 t178 t179 t182 t185 _ ?side1 ?side2 A2.out).mono ?_); (case side1 => repeat (first | exact (Kd.N_reads' HO176.out).2.2 | (with_reducible refine Kd.C_alloc ?_ _) | (with_reducible refine Kd.C_drewN ?_ _) | (with_reducible refine Kd.C_drew ?_))); (case side2 => exact (Kd.N_reads' HO176.out).2.1); rintro e w30 ⟨v180, v183, rfl, ho0, ho1, hb⟩; refine ⟨_, rfl, ?_⟩; have n0_ := Aside0.mk (Kd.N_elder' (by (with_reducible repeat (first | apply Kd.N_alloc | apply Kd.N_drewN | apply Kd.N_drew)); exact HO173.out) (Kd.N_base ho1) hb); have n1_ := Aside0.mk (Kd.N_elder' (by (with_reducible repeat (first | apply Kd.N_alloc | apply Kd.N_drewN | apply Kd.N_drew)); exact HO176.out) (Kd.N_base ho1) hb); have n2_ := Aside0.mk (Kd.V_lower (Kd.V_mono (ok' := fun k_ => some k_ ≠ (v183 : Value).ownBlock ∧ some k_ ≠ (.slice Ao27 y171.length co27 : Value).ownBlock ∧ some k_ ≠ (.slice Ao29 t174.length co29 : Value).ownBlock) ho0 (fun k_ hk_ => ⟨hk_.2, (Kd.fresh' (Kd.N_lt (by (with_reducible repeat (first | apply Kd.N_alloc | apply Kd.N_drewN | apply Kd.N_drew)); exact HO173.out)) k_ hk_.1), (Kd.fresh' (Kd.N_lt (by (with_reducible repeat (first | apply Kd.N_alloc | apply Kd.N_drewN | apply Kd.N_drew)); exact HO176.out)) k_ hk_.1)⟩)) (below_size (by repeat (first | (with_reducible first | exact HB.out | apply below_alloc | apply pw_below_drewN | apply below_drew1) | exact HB.out)))); have n3_ := Aside0.mk (Kd.N_lower (Kd.N_mono (ok' := fun k_ => some k_ ≠ (.slice Ao27 y171.length co27 : Value).ownBlock ∧ some k_ ≠ (.slice Ao29 t174.length co29 : Value).ownBlock) ho1 (fun k_ hk_ => ⟨(Kd.fresh' (Kd.N_lt (by (with_reducible repeat (first | apply Kd.N_alloc | apply Kd.N_drewN | apply Kd.N_drew)); exact HO173.out)) k_ hk_), (Kd.fresh' (Kd.N_lt (by (with_reducible repeat (first | apply Kd.N_alloc | apply Kd.N_drewN | apply Kd.N_drew)); exact HO176.out)) k_ hk_)⟩)) (below_size (by repeat (first | (with_reducible first | exact HB.out | apply below_alloc | apply pw_below_drewN | apply below_drew1) | exact HB.out)))); have n4_ := Aside0.mk (below_step (by repeat (first | (with_reducible first | exact HB.out | apply below_alloc | apply pw_below_drewN | apply below_drew1) | exact HB.out)) hb); clear HO173; clear HO176; clear HB; have HO173 := n0_; have HO176 := n1_; have HO181 := n2_; have HO184 := n3_; have HB := n4_; clear n0_ n1_ n2_ n3_ n4_; (try clear hb); (try clear hb2); (try clear hk); (try clear hi); (try clear ho0); (try clear ho1)) | ((with_reducible refine gate_dst (N := 3) rfl ?_); (try (refine gate_guard (by rfl) ?_; dsimp only)); refine box_event ?hg (N := 3) ?hd (cs := #[.int .i64 0, .slice none 0 0]) (t := 40) ?hr ?_; (case hd => rfl); (case hg => rfl); (case hr => first | (go_simp; done) | (go_simp; rfl)); intro gb186 hg w31 hbox hb; have n0_ := Aside0.mk (Kd.N_below (Kd.N_elderB (by (with_reducible repeat (first | apply Kd.N_alloc | apply Kd.N_drewN | apply Kd.N_drew)); exact HO173.out) gb186 (Nat.le_of_eq hg.symm)) hb); have n1_ := Aside0.mk (Kd.N_below (Kd.N_elderB (by (with_reducible repeat (first | apply Kd.N_alloc | apply Kd.N_drewN | apply Kd.N_drew)); exact HO176.out) gb186 (Nat.le_of_eq hg.symm)) hb); have n2_ := Aside0.mk (Kd.V_below (Kd.V_elderB (by (with_reducible repeat (first | apply Kd.V_alloc | apply Kd.V_drewN | apply Kd.V_drew)); exact HO181.out) gb186 (Nat.le_of_eq hg.symm)) hb); have n3_ := Aside0.mk (Kd.N_below (Kd.N_elderB (by (with_reducible repeat (first | apply Kd.N_alloc | apply Kd.N_drewN | apply Kd.N_drew)); exact HO184.out) gb186 (Nat.le_of_eq hg.symm)) hb); have n4_ := Aside0.mk (below_step (by repeat (first | (with_reducible first | exact HB.out | apply below_alloc | apply pw_below_drewN | apply below_drew1) | exact HB.out)) hb); have n5_ := Aside0.mk (hbox); have n6_ := Aside0.mk ((by rw [hg]; exact (below_size (by repeat (first | (with_reducible first | exact HB.out | apply below_alloc | apply pw_below_drewN | apply below_drew1) | exact HB.out))) : w.heap.size ≤ gb186)); have n7_ := Aside0.mk ((by rw [hg]; exact (below_size (by repeat (first | (with_reducible first | exact HB.out | apply below_alloc | apply pw_below_drewN | apply below_drew1) | exact HB.out))) : w.heap.size ≤ gb186)); clear HO173; clear HO176; clear HO181; clear HO184; clear HB; have HO173 := n0_; have HO176 := n1_; have HO181 := n2_; have HO184 := n3_; have HB := n4_; have BK186 := n5_; have GW186 := n6_; have GE186 := n7_; clear n0_ n1_ n2_ n3_ n4_ n5_ n6_ n7_; clear hb hbox hg; have hcz32_0 : w31.cell? ⟨gb186, 0, none⟩ = some (.int .i64 0) := (blk_cell BK186.out 0).trans rfl; have hcz32_1 : w31.cell? ⟨gb186, 1, none⟩ = some (.slice none 0 0) := (blk_cell BK186.out 1).trans rfl; have hfz32_0 := blk_frozen BK186.out 0; have hfz32_1 := blk_frozen BK186.out 1; obtain ⟨Ao33, co33, eo33⟩ := Kd.V_slice HO181.out; subst eo33; obtain ⟨Ao34, co34, eo34⟩ := Kd.N_slice HO184.out; subst eo34))
          go_ret
          exact ⟨by first | rfl | (simp [errW_none, errW_some] <;> rfl) | (simp [*, errW_none, errW_some] <;> rfl), by repeat (first | (with_reducible first | exact HB.out | apply below_alloc | apply pw_below_drewN | apply below_drew1 | refine below_set ?_ GE186.out) | exact HB.out)⟩
      · rw [if_neg c5] at H
        have c5b0 : (t178 == 1) = false := beq_eq_false_iff_ne.mpr c5
        have c5b1 : (t178 != 1) = true := bne_iff_ne.mpr c5
        obtain rfl := Option.some.inj H
        go_enter Try.func20, Try.ntmps20
        go_wp2_with (first | ((with_reducible refine gate_dst (N := 11) rfl ?_); generalize hw8_ : w.alloc (Obj.cells #[.int .u8 97] 5 (1, 2)) = w8; have HF8 := Aside0.mk (lit_F hw8_ Ny168.out); have HB8 := Aside0.mk (box_below hw8_); clear hw8_ hcv_ HB; have HB := HB8; clear HB8; (try (refine gate_guard (by rfl) ?_; dsimp only)); refine Kd.N_lit k40 _ 40 ?hg (N' := 11) ?hd (xs := ([(⟨1, y168⟩ : S40), (⟨2, ([] : List Int)⟩ : S40)] : List (S40))) (inner := [.int .i64 1, .slice (some ⟨w.heap.size, 0, none⟩) 1 1, .int .i64 2, .slice none 0 0]) (ok := (fun _ => True)) (okp := (fun _ => True)) ?hr ?hp (fun _ hk => hk) ((show ∀ k_, w8.heap.size ≤ k_ → (fun _ => True) k_ from fun k_ hk => trivial) _ (Nat.le_refl _)) (Below.refl _ _) (Nat.le_refl _) (by simp) ?_; (case hd => rfl); (case hg => rfl); (case hr => first | (go_simp; done) | (go_simp; rfl)); (case hp => exact (Reps.c2 (lit_FK HF8.out Ny168.out) (Reps.c2 (show Kd.FK k40 _ _ (⟨2, ([] : List Int)⟩ : S40) [.int .i64 2, .slice none 0 0] from (k40_mkF _ _ (⟨2, ([] : List Int)⟩ : S40) (Nat.le_refl _) (Kd.F_nil _ _ _))) (Reps.none _ _)))); intro v172 w38 ho39 hb hg_ hnew_; clear hg_ hnew_; (first | rw [← Ny171.out] at ho39 | (simp only [Int.reduceToNat] at ho39; rw [← Ny171.out] at ho39)); have n0_ := Aside0.mk (Kd.N_lower ho39 (below_size (by repeat (first | (with_reducible first | exact HB.out | apply below_alloc | apply pw_below_drewN | apply below_drew1) | exact HB.out)))); have n1_ := Aside0.mk (below_step (by repeat (first | (with_reducible first | exact HB.out | apply below_alloc | apply pw_below_drewN | apply below_drew1) | exact HB.out)) hb); clear HB; have HO173 := n0_; have HB := n1_; clear n0_ n1_; clear hb ho39; obtain ⟨Ao40, co40, eo40⟩ := Kd.N_slice HO173.out; subst eo40) | ((with_reducible refine gate_callee (f := 22) rfl ?_); refine goesL_ (some 12) rfl rfl Try.func22 (by kernel_rfl) rfl #[.slice none 0 0, .slice Ao40 y171.length co40] rfl (by (try simp only [List.map_toArray, List.map_cons, List.map_nil]); first | done | rfl | (simp only [List.length_drop, List.length_take]; rfl)) ?_; (refine (net_Send.calls k _ _ ([] : List (S40)) _ _ y171 t174 t177 _ ?side1 ?side2 ?side3 ?side4 A1.out).mono ?_); (case side1 => exact Kd.C_nil _ _); (case side2 => exact Nat.le_refl _); (case side3 => repeat (first | exact (Kd.N_reads' HO173.out).2.2 | (with_reducible refine Kd.C_alloc ?_ _) | (with_reducible refine Kd.C_drewN ?_ _) | (with_reducible refine Kd.C_drew ?_))); (case side4 => exact (Kd.N_reads' HO173.out).2.1); rintro e w41 ⟨v175, rfl, ho0, hb⟩; refine ⟨_, rfl, ?_⟩; have n0_ := Aside0.mk (Kd.N_elder' (by (with_reducible repeat (first | apply Kd.N_alloc | apply Kd.N_drewN | apply Kd.N_drew)); exact HO173.out) (by first | exact Kd.N_base ho0 | exact Kd.S_base ho0) hb); have n1_ := Aside0.mk (Kd.N_lower (Kd.N_mono (ok' := fun k_ => some k_ ≠ (.slice Ao40 y171.length co40 : Value).ownBlock) ho0 (fun k_ hk_ => (Kd.fresh' (Kd.N_lt (by (with_reducible repeat (first | apply Kd.N_alloc | apply Kd.N_drewN | apply Kd.N_drew)); exact HO173.out)) k_ hk_))) (below_size (by repeat (first | (with_reducible first | exact HB.out | apply below_alloc | apply pw_below_drewN | apply below_drew1) | exact HB.out)))); have n2_ := Aside0.mk (below_step (by repeat (first | (with_reducible first | exact HB.out | apply below_alloc | apply pw_below_drewN | apply below_drew1) | exact HB.out)) hb); clear HO173; clear HB; have HO173 := n0_; have HO176 := n1_; have HB := n2_; clear n0_ n1_ n2_; (try clear hb); (try clear hb2); (try clear hk); (try clear hi); (try clear ho0); obtain ⟨Ao42, co42, eo42⟩ := Kd.N_slice HO176.out; subst eo42) | ((with_reducible refine gate_callee (f := 24) rfl ?_); refine goesL_ (some 17) rfl rfl Try.func24 (by kernel_rfl) rfl #[.slice Ao42 t174.length co42, .int .i64 0] rfl (by (try simp only [List.map_toArray, List.map_cons, List.map_nil]); first | done | rfl | (simp only [List.length_drop, List.length_take]; rfl)) ?_; (with_reducible refine (net_Give.calls k _ _ t174 0 t178 t179 t182 t185 _ ?side1 ?side2 A2.out).mono ?_); (case side1 => repeat (first | exact (Kd.N_reads' HO176.out).2.2 | (with_reducible refine Kd.C_alloc ?_ _) | (with_reducible refine Kd.C_drewN ?_ _) | (with_reducible refine Kd.C_drew ?_))); (case side2 => exact (Kd.N_reads' HO176.out).2.1); rintro e w43 ⟨v180, v183, rfl, ho0, ho1, hb⟩; refine ⟨_, rfl, ?_⟩; have n0_ := Aside0.mk (Kd.N_elder' (by (with_reducible repeat (first | apply Kd.N_alloc | apply Kd.N_drewN | apply Kd.N_drew)); exact HO173.out) (Kd.N_base ho1) hb); have n1_ := Aside0.mk (Kd.N_elder' (by (with_reducible repeat (first | apply Kd.N_alloc | apply Kd.N_drewN | apply Kd.N_drew)); exact HO176.out) (Kd.N_base ho1) hb); have n2_ := Aside0.mk (Kd.V_lower (Kd.V_mono (ok' := fun k_ => some k_ ≠ (v183 : Value).ownBlock ∧ some k_ ≠ (.slice Ao40 y171.length co40 : Value).ownBlock ∧ some k_ ≠ (.slice Ao42 t174.length co42 : Value).ownBlock) ho0 (fun k_ hk_ => ⟨hk_.2, (Kd.fresh' (Kd.N_lt (by (with_reducible repeat (first | apply Kd.N_alloc | apply Kd.N_drewN | apply Kd.N_drew)); exact HO173.out)) k_ hk_.1), (Kd.fresh' (Kd.N_lt (by (with_reducible repeat (first | apply Kd.N_alloc | apply Kd.N_drewN | apply Kd.N_drew)); exact HO176.out)) k_ hk_.1)⟩)) (below_size (by repeat (first | (with_reducible first | exact HB.out | apply below_alloc | apply pw_below_drewN | apply below_drew1) | exact HB.out)))); have n3_ := Aside0.mk (Kd.N_lower (Kd.N_mono (ok' := fun k_ => some k_ ≠ (.slice Ao40 y171.length co40 : Value).ownBlock ∧ some k_ ≠ (.slice Ao42 t174.length co42 : Value).ownBlock) ho1 (fun k_ hk_ => ⟨(Kd.fresh' (Kd.N_lt (by (with_reducible repeat (first | apply Kd.N_alloc | apply Kd.N_drewN | apply Kd.N_drew)); exact HO173.out)) k_ hk_), (Kd.fresh' (Kd.N_lt (by (with_reducible repeat (first | apply Kd.N_alloc | apply Kd.N_drewN | apply Kd.N_drew)); exact HO176.out)) k_ hk_)⟩)) (below_size (by repeat (first | (with_reducible first | exact HB.out | apply below_alloc | apply pw_below_drewN | apply below_drew1) | exact HB.out)))); have n4_ := Aside0.mk (below_step (by repeat (first | (with_reducible first | exact HB.out | apply below_alloc | apply pw_below_drewN | apply below_drew1) | exact HB.out)) hb); clear HO173; clear HO176; clear HB; have HO173 := n0_; have HO176 := n1_; have HO181 := n2_; have HO184 := n3_; have HB := n4_; clear n0_ n1_ n2_ n3_ n4_; (try clear hb); (try clear hb2); (try clear hk); (try clear hi); (try clear ho0); (try clear ho1)) | ((with_reducible refine gate_dst (N := 3) rfl ?_); (try (refine gate_guard (by rfl) ?_; dsimp only)); refine box_event ?hg (N := 3) ?hd (cs := #[.int .i64 0, .slice none 0 0]) (t := 40) ?hr ?_; (case hd => rfl); (case hg => rfl); (case hr => first | (go_simp; done) | (go_simp; rfl)); intro gb186 hg w44 hbox hb; have n0_ := Aside0.mk (Kd.N_below (Kd.N_elderB (by (with_reducible repeat (first | apply Kd.N_alloc | apply Kd.N_drewN | apply Kd.N_drew)); exact HO173.out) gb186 (Nat.le_of_eq hg.symm)) hb); have n1_ := Aside0.mk (Kd.N_below (Kd.N_elderB (by (with_reducible repeat (first | apply Kd.N_alloc | apply Kd.N_drewN | apply Kd.N_drew)); exact HO176.out) gb186 (Nat.le_of_eq hg.symm)) hb); have n2_ := Aside0.mk (Kd.V_below (Kd.V_elderB (by (with_reducible repeat (first | apply Kd.V_alloc | apply Kd.V_drewN | apply Kd.V_drew)); exact HO181.out) gb186 (Nat.le_of_eq hg.symm)) hb); have n3_ := Aside0.mk (Kd.N_below (Kd.N_elderB (by (with_reducible repeat (first | apply Kd.N_alloc | apply Kd.N_drewN | apply Kd.N_drew)); exact HO184.out) gb186 (Nat.le_of_eq hg.symm)) hb); have n4_ := Aside0.mk (below_step (by repeat (first | (with_reducible first | exact HB.out | apply below_alloc | apply pw_below_drewN | apply below_drew1) | exact HB.out)) hb); have n5_ := Aside0.mk (hbox); have n6_ := Aside0.mk ((by rw [hg]; exact (below_size (by repeat (first | (with_reducible first | exact HB.out | apply below_alloc | apply pw_below_drewN | apply below_drew1) | exact HB.out))) : w.heap.size ≤ gb186)); have n7_ := Aside0.mk ((by rw [hg]; exact (below_size (by repeat (first | (with_reducible first | exact HB.out | apply below_alloc | apply pw_below_drewN | apply below_drew1) | exact HB.out))) : w.heap.size ≤ gb186)); clear HO173; clear HO176; clear HO181; clear HO184; clear HB; have HO173 := n0_; have HO176 := n1_; have HO181 := n2_; have HO184 := n3_; have HB := n4_; have BK186 := n5_; have GW186 := n6_; have GE186 := n7_; clear n0_ n1_ n2_ n3_ n4_ n5_ n6_ n7_; clear hb hbox hg; have hcz45_0 : w44.cell? ⟨gb186, 0, none⟩ = some (.int .i64 0) := (blk_cell BK186.out 0).trans rfl; have hcz45_1 : w44.cell? ⟨gb186, 1, none⟩ = some (.slice none 0 0) := (blk_cell BK186.out 1).trans rfl; have hfz45_0 := blk_frozen BK186.out 0; have hfz45_1 := blk_frozen BK186.out 1; obtain ⟨Ao46, co46, eo46⟩ := Kd.V_slice HO181.out; subst eo46))
        go_ret
        exact ⟨by first | rfl | (simp [errW_none, errW_some] <;> rfl) | (simp [*, errW_none, errW_some] <;> rfl), by repeat (first | (with_reducible first | exact HB.out | apply below_alloc | apply pw_below_drewN | apply below_drew1 | refine below_set ?_ GE186.out) | exact HB.out)⟩
    · rw [if_neg c4] at H
      have c4b0 : (t185 == 0) = false := beq_eq_false_iff_ne.mpr c4
      have c4b1 : (t185 != 0) = true := bne_iff_ne.mpr c4
      obtain rfl := Option.some.inj H
      go_enter Try.func20, Try.ntmps20
      go_wp2_with (first | ((with_reducible refine gate_dst (N := 11) rfl ?_); generalize hw8_ : w.alloc (Obj.cells #[.int .u8 97] 5 (1, 2)) = w8; have HF8 := Aside0.mk (lit_F hw8_ Ny168.out); have HB8 := Aside0.mk (box_below hw8_); clear hw8_ hcv_ HB; have HB := HB8; clear HB8; (try (refine gate_guard (by rfl) ?_; dsimp only)); refine Kd.N_lit k40 _ 40 ?hg (N' := 11) ?hd (xs := ([(⟨1, y168⟩ : S40), (⟨2, ([] : List Int)⟩ : S40)] : List (S40))) (inner := [.int .i64 1, .slice (some ⟨w.heap.size, 0, none⟩) 1 1, .int .i64 2, .slice none 0 0]) (ok := (fun _ => True)) (okp := (fun _ => True)) ?hr ?hp (fun _ hk => hk) ((show ∀ k_, w8.heap.size ≤ k_ → (fun _ => True) k_ from fun k_ hk => trivial) _ (Nat.le_refl _)) (Below.refl _ _) (Nat.le_refl _) (by simp) ?_; (case hd => rfl); (case hg => rfl); (case hr => first | (go_simp; done) | (go_simp; rfl)); (case hp => exact (Reps.c2 (lit_FK HF8.out Ny168.out) (Reps.c2 (show Kd.FK k40 _ _ (⟨2, ([] : List Int)⟩ : S40) [.int .i64 2, .slice none 0 0] from (k40_mkF _ _ (⟨2, ([] : List Int)⟩ : S40) (Nat.le_refl _) (Kd.F_nil _ _ _))) (Reps.none _ _)))); intro v172 w50 ho51 hb hg_ hnew_; clear hg_ hnew_; (first | rw [← Ny171.out] at ho51 | (simp only [Int.reduceToNat] at ho51; rw [← Ny171.out] at ho51)); have n0_ := Aside0.mk (Kd.N_lower ho51 (below_size (by repeat (first | (with_reducible first | exact HB.out | apply below_alloc | apply pw_below_drewN | apply below_drew1) | exact HB.out)))); have n1_ := Aside0.mk (below_step (by repeat (first | (with_reducible first | exact HB.out | apply below_alloc | apply pw_below_drewN | apply below_drew1) | exact HB.out)) hb); clear HB; have HO173 := n0_; have HB := n1_; clear n0_ n1_; clear hb ho51; obtain ⟨Ao52, co52, eo52⟩ := Kd.N_slice HO173.out; subst eo52) | ((with_reducible refine gate_callee (f := 22) rfl ?_); refine goesL_ (some 12) rfl rfl Try.func22 (by kernel_rfl) rfl #[.slice none 0 0, .slice Ao52 y171.length co52] rfl (by (try simp only [List.map_toArray, List.map_cons, List.map_nil]); first | done | rfl | (simp only [List.length_drop, List.length_take]; rfl)) ?_; (refine (net_Send.calls k _ _ ([] : List (S40)) _ _ y171 t174 t177 _ ?side1 ?side2 ?side3 ?side4 A1.out).mono ?_); (case side1 => exact Kd.C_nil _ _); (case side2 => exact Nat.le_refl _); (case side3 => repeat (first | exact (Kd.N_reads' HO173.out).2.2 | (with_reducible refine Kd.C_alloc ?_ _) | (with_reducible refine Kd.C_drewN ?_ _) | (with_reducible refine Kd.C_drew ?_))); (case side4 => exact (Kd.N_reads' HO173.out).2.1); rintro e w53 ⟨v175, rfl, ho0, hb⟩; refine ⟨_, rfl, ?_⟩; have n0_ := Aside0.mk (Kd.N_elder' (by (with_reducible repeat (first | apply Kd.N_alloc | apply Kd.N_drewN | apply Kd.N_drew)); exact HO173.out) (by first | exact Kd.N_base ho0 | exact Kd.S_base ho0) hb); have n1_ := Aside0.mk (Kd.N_lower (Kd.N_mono (ok' := fun k_ => some k_ ≠ (.slice Ao52 y171.length co52 : Value).ownBlock) ho0 (fun k_ hk_ => (Kd.fresh' (Kd.N_lt (by (with_reducible repeat (first | apply Kd.N_alloc | apply Kd.N_drewN | apply Kd.N_drew)); exact HO173.out)) k_ hk_))) (below_size (by repeat (first | (with_reducible first | exact HB.out | apply below_alloc | apply pw_below_drewN | apply below_drew1) | exact HB.out)))); have n2_ := Aside0.mk (below_step (by repeat (first | (with_reducible first | exact HB.out | apply below_alloc | apply pw_below_drewN | apply below_drew1) | exact HB.out)) hb); clear HO173; clear HB; have HO173 := n0_; have HO176 := n1_; have HB := n2_; clear n0_ n1_ n2_; (try clear hb); (try clear hb2); (try clear hk); (try clear hi); (try clear ho0); obtain ⟨Ao54, co54, eo54⟩ := Kd.N_slice HO176.out; subst eo54) | ((with_reducible refine gate_callee (f := 24) rfl ?_); refine goesL_ (some 17) rfl rfl Try.func24 (by kernel_rfl) rfl #[.slice Ao54 t174.length co54, .int .i64 0] rfl (by (try simp only [List.map_toArray, List.map_cons, List.map_nil]); first | done | rfl | (simp only [List.length_drop, List.length_take]; rfl)) ?_; (with_reducible refine (net_Give.calls k _ _ t174 0 t178 t179 t182 t185 _ ?side1 ?side2 A2.out).mono ?_); (case side1 => repeat (first | exact (Kd.N_reads' HO176.out).2.2 | (with_reducible refine Kd.C_alloc ?_ _) | (with_reducible refine Kd.C_drewN ?_ _) | (with_reducible refine Kd.C_drew ?_))); (case side2 => exact (Kd.N_reads' HO176.out).2.1); rintro e w55 ⟨v180, v183, rfl, ho0, ho1, hb⟩; refine ⟨_, rfl, ?_⟩; have n0_ := Aside0.mk (Kd.N_elder' (by (with_reducible repeat (first | apply Kd.N_alloc | apply Kd.N_drewN | apply Kd.N_drew)); exact HO173.out) (Kd.N_base ho1) hb); have n1_ := Aside0.mk (Kd.N_elder' (by (with_reducible repeat (first | apply Kd.N_alloc | apply Kd.N_drewN | apply Kd.N_drew)); exact HO176.out) (Kd.N_base ho1) hb); have n2_ := Aside0.mk (Kd.V_lower (Kd.V_mono (ok' := fun k_ => some k_ ≠ (v183 : Value).ownBlock ∧ some k_ ≠ (.slice Ao52 y171.length co52 : Value).ownBlock ∧ some k_ ≠ (.slice Ao54 t174.length co54 : Value).ownBlock) ho0 (fun k_ hk_ => ⟨hk_.2, (Kd.fresh' (Kd.N_lt (by (with_reducible repeat (first | apply Kd.N_alloc | apply Kd.N_drewN | apply Kd.N_drew)); exact HO173.out)) k_ hk_.1), (Kd.fresh' (Kd.N_lt (by (with_reducible repeat (first | apply Kd.N_alloc | apply Kd.N_drewN | apply Kd.N_drew)); exact HO176.out)) k_ hk_.1)⟩)) (below_size (by repeat (first | (with_reducible first | exact HB.out | apply below_alloc | apply pw_below_drewN | apply below_drew1) | exact HB.out)))); have n3_ := Aside0.mk (Kd.N_lower (Kd.N_mono (ok' := fun k_ => some k_ ≠ (.slice Ao52 y171.length co52 : Value).ownBlock ∧ some k_ ≠ (.slice Ao54 t174.length co54 : Value).ownBlock) ho1 (fun k_ hk_ => ⟨(Kd.fresh' (Kd.N_lt (by (with_reducible repeat (first | apply Kd.N_alloc | apply Kd.N_drewN | apply Kd.N_drew)); exact HO173.out)) k_ hk_), (Kd.fresh' (Kd.N_lt (by (with_reducible repeat (first | apply Kd.N_alloc | apply Kd.N_drewN | apply Kd.N_drew)); exact HO176.out)) k_ hk_)⟩)) (below_size (by repeat (first | (with_reducible first | exact HB.out | apply below_alloc | apply pw_below_drewN | apply below_drew1) | exact HB.out)))); have n4_ := Aside0.mk (below_step (by repeat (first | (with_reducible first | exact HB.out | apply below_alloc | apply pw_below_drewN | apply below_drew1) | exact HB.out)) hb); clear HO173; clear HO176; clear HB; have HO173 := n0_; have HO176 := n1_; have HO181 := n2_; have HO184 := n3_; have HB := n4_; clear n0_ n1_ n2_ n3_ n4_; (try clear hb); (try clear hb2); (try clear hk); (try clear hi); (try clear ho0); (try clear ho1)) | ((with_reducible refine gate_dst (N := 3) rfl ?_); (try (refine gate_guard (by rfl) ?_; dsimp only)); refine box_event ?hg (N := 3) ?hd (cs := #[.int .i64 0, .slice none 0 0]) (t := 40) ?hr ?_; (case hd => rfl); (case hg => rfl); (case hr => first | (go_simp; done) | (go_simp; rfl)); intro gb186 hg w56 hbox hb; have n0_ := Aside0.mk (Kd.N_below (Kd.N_elderB (by (with_reducible repeat (first | apply Kd.N_alloc | apply Kd.N_drewN | apply Kd.N_drew)); exact HO173.out) gb186 (Nat.le_of_eq hg.symm)) hb); have n1_ := Aside0.mk (Kd.N_below (Kd.N_elderB (by (with_reducible repeat (first | apply Kd.N_alloc | apply Kd.N_drewN | apply Kd.N_drew)); exact HO176.out) gb186 (Nat.le_of_eq hg.symm)) hb); have n2_ := Aside0.mk (Kd.V_below (Kd.V_elderB (by (with_reducible repeat (first | apply Kd.V_alloc | apply Kd.V_drewN | apply Kd.V_drew)); exact HO181.out) gb186 (Nat.le_of_eq hg.symm)) hb); have n3_ := Aside0.mk (Kd.N_below (Kd.N_elderB (by (with_reducible repeat (first | apply Kd.N_alloc | apply Kd.N_drewN | apply Kd.N_drew)); exact HO184.out) gb186 (Nat.le_of_eq hg.symm)) hb); have n4_ := Aside0.mk (below_step (by repeat (first | (with_reducible first | exact HB.out | apply below_alloc | apply pw_below_drewN | apply below_drew1) | exact HB.out)) hb); have n5_ := Aside0.mk (hbox); have n6_ := Aside0.mk ((by rw [hg]; exact (below_size (by repeat (first | (with_reducible first | exact HB.out | apply below_alloc | apply pw_below_drewN | apply below_drew1) | exact HB.out))) : w.heap.size ≤ gb186)); have n7_ := Aside0.mk ((by rw [hg]; exact (below_size (by repeat (first | (with_reducible first | exact HB.out | apply below_alloc | apply pw_below_drewN | apply below_drew1) | exact HB.out))) : w.heap.size ≤ gb186)); clear HO173; clear HO176; clear HO181; clear HO184; clear HB; have HO173 := n0_; have HO176 := n1_; have HO181 := n2_; have HO184 := n3_; have HB := n4_; have BK186 := n5_; have GW186 := n6_; have GE186 := n7_; clear n0_ n1_ n2_ n3_ n4_ n5_ n6_ n7_; clear hb hbox hg; have hcz57_0 : w56.cell? ⟨gb186, 0, none⟩ = some (.int .i64 0) := (blk_cell BK186.out 0).trans rfl; have hcz57_1 : w56.cell? ⟨gb186, 1, none⟩ = some (.slice none 0 0) := (blk_cell BK186.out 1).trans rfl; have hfz57_0 := blk_frozen BK186.out 0; have hfz57_1 := blk_frozen BK186.out 1; obtain ⟨Ao58, co58, eo58⟩ := Kd.V_slice HO181.out; subst eo58))
      go_ret
      exact ⟨by first | rfl | (simp [errW_none, errW_some] <;> rfl) | (simp [*, errW_none, errW_some] <;> rfl), by repeat (first | (with_reducible first | exact HB.out | apply below_alloc | apply pw_below_drewN | apply below_drew1 | refine below_set ?_ GE186.out) | exact HB.out)⟩
  · rw [if_neg c3] at H
    have c3b0 : (t177 == 0) = false := beq_eq_false_iff_ne.mpr c3
    have c3b1 : (t177 != 0) = true := bne_iff_ne.mpr c3
    obtain rfl := Option.some.inj H
    go_enter Try.func20, Try.ntmps20
    go_wp2_with (first | ((with_reducible refine gate_dst (N := 11) rfl ?_); generalize hw8_ : w.alloc (Obj.cells #[.int .u8 97] 5 (1, 2)) = w8; have HF8 := Aside0.mk (lit_F hw8_ Ny168.out); have HB8 := Aside0.mk (box_below hw8_); clear hw8_ hcv_ HB; have HB := HB8; clear HB8; (try (refine gate_guard (by rfl) ?_; dsimp only)); refine Kd.N_lit k40 _ 40 ?hg (N' := 11) ?hd (xs := ([(⟨1, y168⟩ : S40), (⟨2, ([] : List Int)⟩ : S40)] : List (S40))) (inner := [.int .i64 1, .slice (some ⟨w.heap.size, 0, none⟩) 1 1, .int .i64 2, .slice none 0 0]) (ok := (fun _ => True)) (okp := (fun _ => True)) ?hr ?hp (fun _ hk => hk) ((show ∀ k_, w8.heap.size ≤ k_ → (fun _ => True) k_ from fun k_ hk => trivial) _ (Nat.le_refl _)) (Below.refl _ _) (Nat.le_refl _) (by simp) ?_; (case hd => rfl); (case hg => rfl); (case hr => first | (go_simp; done) | (go_simp; rfl)); (case hp => exact (Reps.c2 (lit_FK HF8.out Ny168.out) (Reps.c2 (show Kd.FK k40 _ _ (⟨2, ([] : List Int)⟩ : S40) [.int .i64 2, .slice none 0 0] from (k40_mkF _ _ (⟨2, ([] : List Int)⟩ : S40) (Nat.le_refl _) (Kd.F_nil _ _ _))) (Reps.none _ _)))); intro v172 w62 ho63 hb hg_ hnew_; clear hg_ hnew_; (first | rw [← Ny171.out] at ho63 | (simp only [Int.reduceToNat] at ho63; rw [← Ny171.out] at ho63)); have n0_ := Aside0.mk (Kd.N_lower ho63 (below_size (by repeat (first | (with_reducible first | exact HB.out | apply below_alloc | apply pw_below_drewN | apply below_drew1) | exact HB.out)))); have n1_ := Aside0.mk (below_step (by repeat (first | (with_reducible first | exact HB.out | apply below_alloc | apply pw_below_drewN | apply below_drew1) | exact HB.out)) hb); clear HB; have HO173 := n0_; have HB := n1_; clear n0_ n1_; clear hb ho63; obtain ⟨Ao64, co64, eo64⟩ := Kd.N_slice HO173.out; subst eo64) | ((with_reducible refine gate_callee (f := 22) rfl ?_); refine goesL_ (some 12) rfl rfl Try.func22 (by kernel_rfl) rfl #[.slice none 0 0, .slice Ao64 y171.length co64] rfl (by (try simp only [List.map_toArray, List.map_cons, List.map_nil]); first | done | rfl | (simp only [List.length_drop, List.length_take]; rfl)) ?_; (refine (net_Send.calls k _ _ ([] : List (S40)) _ _ y171 t174 t177 _ ?side1 ?side2 ?side3 ?side4 A1.out).mono ?_); (case side1 => exact Kd.C_nil _ _); (case side2 => exact Nat.le_refl _); (case side3 => repeat (first | exact (Kd.N_reads' HO173.out).2.2 | (with_reducible refine Kd.C_alloc ?_ _) | (with_reducible refine Kd.C_drewN ?_ _) | (with_reducible refine Kd.C_drew ?_))); (case side4 => exact (Kd.N_reads' HO173.out).2.1); rintro e w65 ⟨v175, rfl, ho0, hb⟩; refine ⟨_, rfl, ?_⟩; have n0_ := Aside0.mk (Kd.N_elder' (by (with_reducible repeat (first | apply Kd.N_alloc | apply Kd.N_drewN | apply Kd.N_drew)); exact HO173.out) (by first | exact Kd.N_base ho0 | exact Kd.S_base ho0) hb); have n1_ := Aside0.mk (Kd.N_lower (Kd.N_mono (ok' := fun k_ => some k_ ≠ (.slice Ao64 y171.length co64 : Value).ownBlock) ho0 (fun k_ hk_ => (Kd.fresh' (Kd.N_lt (by (with_reducible repeat (first | apply Kd.N_alloc | apply Kd.N_drewN | apply Kd.N_drew)); exact HO173.out)) k_ hk_))) (below_size (by repeat (first | (with_reducible first | exact HB.out | apply below_alloc | apply pw_below_drewN | apply below_drew1) | exact HB.out)))); have n2_ := Aside0.mk (below_step (by repeat (first | (with_reducible first | exact HB.out | apply below_alloc | apply pw_below_drewN | apply below_drew1) | exact HB.out)) hb); clear HO173; clear HB; have HO173 := n0_; have HO176 := n1_; have HB := n2_; clear n0_ n1_ n2_; (try clear hb); (try clear hb2); (try clear hk); (try clear hi); (try clear ho0); obtain ⟨Ao66, co66, eo66⟩ := Kd.N_slice HO176.out; subst eo66) | ((with_reducible refine gate_callee (f := 24) rfl ?_); refine goesL_ (some 17) rfl rfl Try.func24 (by kernel_rfl) rfl #[.slice Ao66 t174.length co66, .int .i64 0] rfl (by (try simp only [List.map_toArray, List.map_cons, List.map_nil]); first | done | rfl | (simp only [List.length_drop, List.length_take]; rfl)) ?_; (with_reducible refine (net_Give.calls k _ _ t174 0 t178 t179 t182 t185 _ ?side1 ?side2 A2.out).mono ?_); (case side1 => repeat (first | exact (Kd.N_reads' HO176.out).2.2 | (with_reducible refine Kd.C_alloc ?_ _) | (with_reducible refine Kd.C_drewN ?_ _) | (with_reducible refine Kd.C_drew ?_))); (case side2 => exact (Kd.N_reads' HO176.out).2.1); rintro e w67 ⟨v180, v183, rfl, ho0, ho1, hb⟩; refine ⟨_, rfl, ?_⟩; have n0_ := Aside0.mk (Kd.N_elder' (by (with_reducible repeat (first | apply Kd.N_alloc | apply Kd.N_drewN | apply Kd.N_drew)); exact HO173.out) (Kd.N_base ho1) hb); have n1_ := Aside0.mk (Kd.N_elder' (by (with_reducible repeat (first | apply Kd.N_alloc | apply Kd.N_drewN | apply Kd.N_drew)); exact HO176.out) (Kd.N_base ho1) hb); have n2_ := Aside0.mk (Kd.V_lower (Kd.V_mono (ok' := fun k_ => some k_ ≠ (v183 : Value).ownBlock ∧ some k_ ≠ (.slice Ao64 y171.length co64 : Value).ownBlock ∧ some k_ ≠ (.slice Ao66 t174.length co66 : Value).ownBlock) ho0 (fun k_ hk_ => ⟨hk_.2, (Kd.fresh' (Kd.N_lt (by (with_reducible repeat (first | apply Kd.N_alloc | apply Kd.N_drewN | apply Kd.N_drew)); exact HO173.out)) k_ hk_.1), (Kd.fresh' (Kd.N_lt (by (with_reducible repeat (first | apply Kd.N_alloc | apply Kd.N_drewN | apply Kd.N_drew)); exact HO176.out)) k_ hk_.1)⟩)) (below_size (by repeat (first | (with_reducible first | exact HB.out | apply below_alloc | apply pw_below_drewN | apply below_drew1) | exact HB.out)))); have n3_ := Aside0.mk (Kd.N_lower (Kd.N_mono (ok' := fun k_ => some k_ ≠ (.slice Ao64 y171.length co64 : Value).ownBlock ∧ some k_ ≠ (.slice Ao66 t174.length co66 : Value).ownBlock) ho1 (fun k_ hk_ => ⟨(Kd.fresh' (Kd.N_lt (by (with_reducible repeat (first | apply Kd.N_alloc | apply Kd.N_drewN | apply Kd.N_drew)); exact HO173.out)) k_ hk_), (Kd.fresh' (Kd.N_lt (by (with_reducible repeat (first | apply Kd.N_alloc | apply Kd.N_drewN | apply Kd.N_drew)); exact HO176.out)) k_ hk_)⟩)) (below_size (by repeat (first | (with_reducible first | exact HB.out | apply below_alloc | apply pw_below_drewN | apply below_drew1) | exact HB.out)))); have n4_ := Aside0.mk (below_step (by repeat (first | (with_reducible first | exact HB.out | apply below_alloc | apply pw_below_drewN | apply below_drew1) | exact HB.out)) hb); clear HO173; clear HO176; clear HB; have HO173 := n0_; have HO176 := n1_; have HO181 := n2_; have HO184 := n3_; have HB := n4_; clear n0_ n1_ n2_ n3_ n4_; (try clear hb); (try clear hb2); (try clear hk); (try clear hi); (try clear ho0); (try clear ho1)) | ((with_reducible refine gate_dst (N := 3) rfl ?_); (try (refine gate_guard (by rfl) ?_; dsimp only)); refine box_event ?hg (N := 3) ?hd (cs := #[.int .i64 0, .slice none 0 0]) (t := 40) ?hr ?_; (case hd => rfl); (case hg => rfl); (case hr => first | (go_simp; done) | (go_simp; rfl)); intro gb186 hg w68 hbox hb; have n0_ := Aside0.mk (Kd.N_below (Kd.N_elderB (by (with_reducible repeat (first | apply Kd.N_alloc | apply Kd.N_drewN | apply Kd.N_drew)); exact HO173.out) gb186 (Nat.le_of_eq hg.symm)) hb); have n1_ := Aside0.mk (Kd.N_below (Kd.N_elderB (by (with_reducible repeat (first | apply Kd.N_alloc | apply Kd.N_drewN | apply Kd.N_drew)); exact HO176.out) gb186 (Nat.le_of_eq hg.symm)) hb); have n2_ := Aside0.mk (Kd.V_below (Kd.V_elderB (by (with_reducible repeat (first | apply Kd.V_alloc | apply Kd.V_drewN | apply Kd.V_drew)); exact HO181.out) gb186 (Nat.le_of_eq hg.symm)) hb); have n3_ := Aside0.mk (Kd.N_below (Kd.N_elderB (by (with_reducible repeat (first | apply Kd.N_alloc | apply Kd.N_drewN | apply Kd.N_drew)); exact HO184.out) gb186 (Nat.le_of_eq hg.symm)) hb); have n4_ := Aside0.mk (below_step (by repeat (first | (with_reducible first | exact HB.out | apply below_alloc | apply pw_below_drewN | apply below_drew1) | exact HB.out)) hb); have n5_ := Aside0.mk (hbox); have n6_ := Aside0.mk ((by rw [hg]; exact (below_size (by repeat (first | (with_reducible first | exact HB.out | apply below_alloc | apply pw_below_drewN | apply below_drew1) | exact HB.out))) : w.heap.size ≤ gb186)); have n7_ := Aside0.mk ((by rw [hg]; exact (below_size (by repeat (first | (with_reducible first | exact HB.out | apply below_alloc | apply pw_below_drewN | apply below_drew1) | exact HB.out))) : w.heap.size ≤ gb186)); clear HO173; clear HO176; clear HO181; clear HO184; clear HB; have HO173 := n0_; have HO176 := n1_; have HO181 := n2_; have HO184 := n3_; have HB := n4_; have BK186 := n5_; have GW186 := n6_; have GE186 := n7_; clear n0_ n1_ n2_ n3_ n4_ n5_ n6_ n7_; clear hb hbox hg; have hcz69_0 : w68.cell? ⟨gb186, 0, none⟩ = some (.int .i64 0) := (blk_cell BK186.out 0).trans rfl; have hcz69_1 : w68.cell? ⟨gb186, 1, none⟩ = some (.slice none 0 0) := (blk_cell BK186.out 1).trans rfl; have hfz69_0 := blk_frozen BK186.out 0; have hfz69_1 := blk_frozen BK186.out 1; obtain ⟨Ao70, co70, eo70⟩ := Kd.V_slice HO181.out; subst eo70))
    go_ret
    exact ⟨by first | rfl | (simp [errW_none, errW_some] <;> rfl) | (simp [*, errW_none, errW_some] <;> rfl), by repeat (first | (with_reducible first | exact HB.out | apply below_alloc | apply pw_below_drewN | apply below_drew1 | refine below_set ?_ GE186.out) | exact HB.out)⟩

end Go.Proofs.Ytlppmamhbpcfcaa.MNet
