/- Functions that the laws use, each as a plain Lean function, with the proof that the Go code comes to just that; no conditions beyond those typed. -/
import Derived.Test.YtlppmamhbpcfcaaNetGive
namespace Go.Proofs.Ytlppmamhbpcfcaa.MNet
open Go.RowKit Go.Proofs.YtlppmamhbpcfcaaW.PrintWords Go.Proofs.YtlppmamhbpcfcaaW.PrintLast Go.Proofs.YtlppmamhbpcfcaaW.PrintMore
attribute [local go_sem] max2_int min2_int max_two min_two max_three min_three max_four min_four   -- for this text's walks alone
set_option linter.unusedVariables false
set_option linter.unusedSimpArgs false

/-! ### thrumref21_Copy: function 43 -/
def thrumref21_Copy.l0 : Nat → List (S40) → List (S40) → Int → Int → Option ((List (S40)))
  | 0, _, _, _, _ => none
  | k + 1, x3, x6, x7, x8 => if x8 < x7 then (if 0 ≤ x8 then (if x8 < (x6.length : Int) then (if ([] : List Int).length + ((rd_T40 x6 x8).f1).length < 140737488355328 then (if x3.length < 4398046511104 then (thrumref21_Copy.l0 k (x3 ++ [(⟨(rd_T40 x6 x8).f0, (([] : List Int) ++ ((rd_T40 x6 x8).f1))⟩ : S40)]) x6 x7 (wrap64 (x8 + 1))) else (none)) else (none)) else (none)) else (none)) else (some x3)
def thrumref21_Copy.f (k : Nat) (l0 : List (S40)) : Option ((List (S40))) := thrumref21_Copy.l0 k ([] : List (S40)) l0 (l0.length : Int) 0
theorem thrumref21_Copy.mono_l : ∀ k, (∀ y0 y1 y2 y3, LeO (thrumref21_Copy.l0 k y0 y1 y2 y3) (thrumref21_Copy.l0 (k + 1) y0 y1 y2 y3))
  | 0 => fun _ _ _ _ r h => by simp [thrumref21_Copy.l0] at h
  | k + 1 => by
    have ih0 := thrumref21_Copy.mono_l k
    · intro y0 y1 y2 y3
      unfold thrumref21_Copy.l0
      repeat' first
      | (with_reducible exact ih0 _ _ _ _)
      | (with_reducible exact LeO.refl _)
      | (with_reducible exact LeO.none _)
      | (with_reducible refine LeO.ite ?_ ?_)
      | (with_reducible refine LeO.bind ?_ (fun _ => ?_))
      | exact ih0 _ _ _ _
      | exact LeO.none _
      | refine LeO.ite ?_ ?_
      | refine LeO.bind ?_ (fun _ => ?_)
theorem thrumref21_Copy.mono : ∀ a0 k, LeO (thrumref21_Copy.f k a0) (thrumref21_Copy.f (k + 1) a0) := by
  intro a0 k
  have ih0 := thrumref21_Copy.mono_l k
  unfold thrumref21_Copy.f
  repeat' first
      | (with_reducible exact ih0 _ _ _ _)
      | (with_reducible exact LeO.refl _)
      | (with_reducible exact LeO.none _)
      | (with_reducible refine LeO.ite ?_ ?_)
      | (with_reducible refine LeO.bind ?_ (fun _ => ?_))
      | exact ih0 _ _ _ _
      | exact LeO.none _
      | refine LeO.ite ?_ ?_
      | refine LeO.bind ?_ (fun _ => ?_)
def thrumref21_Copy.T5 : Bool × List (List Nat × List Nat) := (true, [([], []), ([], []), ([1], [1]), ([], []), ([3], [3]), ([4], [4]), ([2, 5], [2, 5]), ([6], [6]), ([0, 7, 5], [0, 7]), ([8, 8, 0, 1, 2, 3, 4, 5, 6, 7, 8], [0, 8])])
def thrumref21_Copy.B5 : List Nat := [0, 0, 2, 0, 8, 24, 62, 126, 255, 511]
theorem thrumref21_Copy.tab5 : rtab .any (opsOf Try.f43 5) = thrumref21_Copy.T5 := by kernel_rfl
theorem thrumref21_Copy.bits5 : waitsOk thrumref21_Copy.T5.2 thrumref21_Copy.B5 = true := by kernel_rfl
set_option maxHeartbeats 8000000 in
set_option maxRecDepth 100000 in
theorem thrumref21_Copy.calls (k : Nat) (A0 : Option Addr) (c0 : Nat) (l0 : List (S40)) (r : List (S40)) (w : World) (hr0 : Kd.C k40 w A0 l0.length l0) (hc0 : l0.length ≤ c0) (h : thrumref21_Copy.f k l0 = some r) :
    Calls Try.prog 43 #[.slice A0 l0.length c0] w fun e w' => ∃ v0_ : Value, e = .returned (v0_) ∧ Kd.S k40 40 w' w.heap.size (fun _ => True) v0_ r ∧ Below w.heap.size w w' := by
  have hu40 := Try.underlying40
  have HR0 := Aside0.mk hr0
  have HC0 := Aside0.mk hc0
  clear hr0 hc0
  have HB := Aside0.mk (Below.refl w.heap.size w)
  have H : (thrumref21_Copy.l0 k ([] : List (S40)) l0 (l0.length : Int) 0) = some r := h
  clear h
  have H' := Aside0.mk H
  clear H
  go_enter Try.func43, Try.ntmps43
  go_wp2
  go_loopg [3, 8] k (fun kq v3 v8 w' => ∃ (x3_1 : List (S40)) (x8_1 : Int), v8 = .int .i64 x8_1 ∧ Aside0 (thrumref21_Copy.l0 kq x3_1 l0 (l0.length : Int) x8_1 = some r) ∧ Aside0 (kq ≤ k) ∧ Aside0 (Kd.S k40 40 w' w.heap.size (fun _ => True) v3 x3_1) ∧ Aside0 (Below w.heap.size w w'))
  case atStart => exact ⟨(([] : List (S40))), (0), (by first | rfl | (simp; done) | (simp [*]; done)), H', ⟨Nat.le_refl _⟩, ⟨by first | exact Kd.S_nil _ _ _ _ _ | exact Kd.N_nil _ _ _ _ _ | exact Kd.V_nil _ _ _ _ _ | exact Kd.Q_nil _ _ _ _ _ | exact Kd.R_nil _ _ _ _ _⟩, ⟨by repeat (first | (with_reducible first | exact HB.out | apply below_alloc | apply pw_below_drewN | apply below_drew1) | exact HB.out)⟩⟩
  case round =>
    clear H'
    obtain ⟨x3_1, x8_1, rfl, HA, HK1, HO_3, HB⟩ := hrel
    cases gk with
    | zero => exact absurd HA.out (by simp [thrumref21_Copy.l0])
    | succ k1 =>
      have H := HA.out
      clear HA
      simp only [thrumref21_Copy.l0] at H
      by_cases c2 : x8_1 < (l0.length : Int)
      · rw [if_pos c2] at H
        have c2b0 : decide (x8_1 < (l0.length : Int)) = true := decide_eq_true c2
        clear c2
        by_cases c3 : 0 ≤ x8_1
        · rw [if_pos c3] at H
          have c3b0 : decide (0 ≤ x8_1) = true := decide_eq_true c3
          clear c3
          by_cases c4 : x8_1 < (l0.length : Int)
          · rw [if_pos c4] at H
            have c4b0 : decide (x8_1 < (l0.length : Int)) = true := decide_eq_true c4
            clear c4
            by_cases c5 : ([] : List Int).length + ((rd_T40 l0 x8_1).f1).length < 140737488355328
            · rw [if_pos c5] at H
              have LMc5 := Aside0.mk c5
              clear c5
              obtain ⟨y383, hy383⟩ : ∃ y_ : List Int, y_ = (([] : List Int) ++ ((rd_T40 l0 x8_1).f1)) := ⟨_, rfl⟩
              replace H : (if x3_1.length < 4398046511104 then (thrumref21_Copy.l0 k1 (x3_1 ++ [(⟨(rd_T40 l0 x8_1).f0, y383⟩ : S40)]) l0 (l0.length : Int) (wrap64 (x8_1 + 1))) else (none)) = some r := by first | (rw [hy383]; with_reducible exact H) | (have H2_ := (Option.bind_some _ _).symm.trans H; rw [hy383]; with_reducible exact H2_) | (have H2_ := (Option.bind_some _ _).symm.trans H; with_reducible exact H2_) | with_reducible exact H | (rw [hy383]; exact H) | exact H
              have Ny383 := Aside0.mk hy383
              clear hy383
              by_cases c6 : x3_1.length < 4398046511104
              · rw [if_pos c6] at H
                have LMc6 := Aside0.mk c6
                clear c6
                obtain ⟨y386, hy386⟩ : ∃ y_ : List (S40), y_ = (x3_1 ++ [(⟨(rd_T40 l0 x8_1).f0, y383⟩ : S40)]) := ⟨_, rfl⟩
                replace H : (thrumref21_Copy.l0 k1 y386 l0 (l0.length : Int) (wrap64 (x8_1 + 1))) = some r := by first | (rw [hy386]; with_reducible exact H) | (have H2_ := (Option.bind_some _ _).symm.trans H; rw [hy386]; with_reducible exact H2_) | (have H2_ := (Option.bind_some _ _).symm.trans H; with_reducible exact H2_) | with_reducible exact H | (rw [hy386]; exact H) | exact H
                have Ny386 := Aside0.mk hy386
                clear hy386
                have H' := Aside0.mk H
                clear H
                have p381 : 0 ≤ (x8_1 : Int) := of_decide_eq_true (by first | (with_reducible assumption) | assumption)
                have q381 : x8_1 < (l0.length : Int) := of_decide_eq_true (by first | (with_reducible assumption) | assumption)
                obtain ⟨ad381, A381_1, c381_1, e381, hx381_0, hx381_1, hl381_1, hi381_1⟩ := at_T40 HR0.out x8_1 p381 q381
                cases e381
                replace hx381_0 := (HB.out.cell (World.block_lt_of_cell? w _ hx381_0)).trans hx381_0
                replace hx381_1 := (HB.out.cell (World.block_lt_of_cell? w _ hx381_1)).trans hx381_1
                have HR381_1 := Aside0.mk hi381_1
                have HC381_1 := Aside0.mk hl381_1
                clear hi381_1 hl381_1
                replace p381 := eq_true p381
                replace q381 := eq_true q381
                try go_wp2_with (first | ((with_reducible refine gate_dst (N := 5) rfl ?_); refine box_event ?hg (N := 5) ?hd (cs := #[.int .i64 0, .slice none 0 0]) (t := 40) ?hr ?_; (case hd => rfl); (case hg => rfl); (case hr => first | (go_simp; done) | (go_simp; rfl)); intro gb382 hg w7 hbox hb; have n0_ := Aside0.mk (Kd.S_below (Kd.S_elderB (by (with_reducible repeat (first | apply Kd.S_alloc | apply Kd.S_drewN | apply Kd.S_drew)); exact HO_3.out) gb382 (Nat.le_of_eq hg.symm)) hb); have n1_ := Aside0.mk (below_step (by repeat (first | (with_reducible first | exact HB.out | apply below_alloc | apply pw_below_drewN | apply below_drew1) | exact HB.out)) hb); have n2_ := Aside0.mk (hbox); have n3_ := Aside0.mk ((by rw [hg]; exact (below_size (by repeat (first | (with_reducible first | exact HB.out | apply below_alloc | apply pw_below_drewN | apply below_drew1) | exact HB.out))) : w.heap.size ≤ gb382)); have n4_ := Aside0.mk ((by rw [hg]; exact (below_size (by repeat (first | (with_reducible first | exact HB.out | apply below_alloc | apply pw_below_drewN | apply below_drew1) | exact HB.out))) : w.heap.size ≤ gb382)); clear HO_3; clear HB; have HO_3 := n0_; have HB := n1_; have BK382 := n2_; have GW382 := n3_; have GE382 := n4_; clear n0_ n1_ n2_ n3_ n4_; clear hb hbox hg; have hcz8_0 : w7.cell? ⟨gb382, 0, none⟩ = some (.int .i64 0) := (blk_cell BK382.out 0).trans rfl; have hcz8_1 : w7.cell? ⟨gb382, 1, none⟩ = some (.slice none 0 0) := (blk_cell BK382.out 1).trans rfl; have hfz8_0 := blk_frozen BK382.out 0; have hfz8_1 := blk_frozen BK382.out 1))
                have n0_ : Aside0 (Kd.S k40 40 ((w7.setCell ⟨gb382, 0, none⟩ (.int .i64 ((rd_T40 l0 x8_1).f0))).setCell ⟨gb382, 1, none⟩ (.slice A381_1 ((rd_T40 l0 x8_1).f1).length c381_1)) w.heap.size (fun k_ => k_ ≠ gb382) u3 x3_1) := ⟨by (with_reducible repeat (first | apply Kd.S_alloc | apply Kd.S_drewN | apply Kd.S_drew)); exact Kd.S_mono (Kd.S_far (p := ⟨gb382, 1, none⟩) (Kd.S_far (p := ⟨gb382, 0, none⟩) (Kd.S_mono HO_3.out (fun k_ hk => (⟨hk, hk.2⟩ : _ ∧ k_ ≠ gb382))) (fun _ hk => hk.2) (.int .i64 ((rd_T40 l0 x8_1).f0))) (fun _ hk => hk.2) (.slice A381_1 ((rd_T40 l0 x8_1).f1).length c381_1)) (fun _ hk => hk.1.2)⟩
                have n1_ : Aside0 (((w7.setCell ⟨gb382, 0, none⟩ (.int .i64 ((rd_T40 l0 x8_1).f0))).setCell ⟨gb382, 1, none⟩ (.slice A381_1 ((rd_T40 l0 x8_1).f1).length c381_1)).heap[gb382]? = some (.cells #[.int .i64 ((rd_T40 l0 x8_1).f0), .slice A381_1 ((rd_T40 l0 x8_1).f1).length c381_1] 40 (0, 0))) := ⟨by (with_reducible repeat (first | refine blk_drewN ?_ _ | refine blk_drew ?_ | refine blk_alloc ?_ _)); refine blk_put (cs := #[.int .i64 ((rd_T40 l0 x8_1).f0), .slice none 0 0]) ?_ 1 _ rfl; (with_reducible repeat (first | refine blk_drewN ?_ _ | refine blk_drew ?_ | refine blk_alloc ?_ _)); refine blk_put (cs := #[.int .i64 0, .slice none 0 0]) ?_ 0 _ rfl; (with_reducible repeat (first | refine blk_drewN ?_ _ | refine blk_drew ?_ | refine blk_alloc ?_ _)); exact BK382.out⟩
                have n2_ : Aside0 (Below w.heap.size w ((w7.setCell ⟨gb382, 0, none⟩ (.int .i64 ((rd_T40 l0 x8_1).f0))).setCell ⟨gb382, 1, none⟩ (.slice A381_1 ((rd_T40 l0 x8_1).f1).length c381_1))) := ⟨by repeat (first | (with_reducible first | exact HB.out | apply below_alloc | apply pw_below_drewN | apply below_drew1 | refine below_set ?_ GE382.out) | exact HB.out)⟩
                (try clear HO_3)
                (try clear BK382)
                (try clear HB)
                generalize ((w7.setCell ⟨gb382, 0, none⟩ (.int .i64 ((rd_T40 l0 x8_1).f0))).setCell ⟨gb382, 1, none⟩ (.slice A381_1 ((rd_T40 l0 x8_1).f1).length c381_1)) = w9 at n0_ n1_ n2_ ⊢
                have HO_3 := n0_
                have BK382 := n1_
                have HB := n2_
                clear n0_ n1_ n2_
                have n0_ := Aside0.mk (Kd.S_drew HO_3.out)
                have n1_ := Aside0.mk (blk_drew BK382.out)
                have n2_ := Aside0.mk (below_drew1 HB.out)
                clear HO_3
                clear BK382
                clear HB
                have HO_3 := n0_
                have BK382 := n1_
                have HB := n2_
                clear n0_ n1_ n2_
                refine start_ (n := 10) (S := fun w' => w'.cell? ⟨gb382, 0, none⟩ = some (.int .i64 ((rd_T40 l0 x8_1).f0)) ∧ w'.cell? ⟨gb382, 1, none⟩ = some (.slice A381_1 ((rd_T40 l0 x8_1).f1).length c381_1)) (ds := []) #[false, false, false, false, false, false, false, false, false, false] (by kernel_rfl) rfl rfl ⟨(blk_cell BK382.out 0).trans rfl, (blk_cell BK382.out 1).trans rfl⟩ (fun hHeld => ?_); refine with_tabW thrumref21_Copy.tab5 thrumref21_Copy.bits5 (fun HT_ HW_ => ?_)
                generalize w9.drew = w10 at HO_3 BK382 HB hHeld ⊢
                refine pure_ (i := 0) (N := some 12) (v := ?_) (a' := ?_) #[true, false, false, false, false, false, false, false, false, false] rfl rfl (any_of HT_.out (by kernel_rfl)) (fun _ _ _ h => h) (Or.inl ⟨by rfl, ?_⟩) ?_ ?_
                rotate_left
                · intro w'
                  go_simp
                  with_reducible rfl
                rotate_left
                · simp only [Act.put, List.setIfInBounds_toArray, List.set_cons_zero, List.set_cons_succ, i64_w, i32_w]
                  rfl
                refine pure_ (i := 1) (N := some 13) (v := ?_) (a' := ?_) #[true, true, false, false, false, false, false, false, false, false] rfl rfl (any_of HT_.out (by kernel_rfl)) (fun _ _ _ h => h) (Or.inl ⟨by rfl, ?_⟩) ?_ ?_
                rotate_left
                · intro w'
                  go_simp
                  with_reducible rfl
                rotate_left
                · simp only [Act.put, List.setIfInBounds_toArray, List.set_cons_zero, List.set_cons_succ, i64_w, i32_w]
                  rfl
                refine pure_ (i := 3) (N := some 15) (v := ?_) (a' := ?_) #[true, true, false, true, false, false, false, false, false, false] rfl rfl (any_of HT_.out (by kernel_rfl)) (fun _ _ _ h => h) (Or.inl ⟨by rfl, ?_⟩) ?_ ?_
                rotate_left
                · intro w'
                  go_simp
                  with_reducible rfl
                rotate_left
                · simp only [Act.put, List.setIfInBounds_toArray, List.set_cons_zero, List.set_cons_succ, i64_w, i32_w]
                  rfl
                refine take_ (i := 2) (N := some 14) (v := ?_) (a' := ?_) #[true, true, true, true, false, false, false, false, false, false] rfl rfl (take_ofW HT_.out HW_.out (by kernel_rfl)) (fun _ _ _ h => h) (Or.inl ⟨by rfl, ?_⟩) hHeld ?_ ?_
                rotate_left
                · rintro w' ⟨s0, s1⟩
                  go_simp
                  with_reducible rfl
                rotate_left
                · simp only [Act.put, List.setIfInBounds_toArray, List.set_cons_zero, List.set_cons_succ, i64_w, i32_w]
                  rfl
                refine take_ (i := 4) (N := some 16) (v := ?_) (a' := ?_) #[true, true, true, true, true, false, false, false, false, false] rfl rfl (take_ofW HT_.out HW_.out (by kernel_rfl)) (fun _ _ _ h => h) (Or.inl ⟨by rfl, ?_⟩) hHeld ?_ ?_
                rotate_left
                · rintro w' ⟨s0, s1⟩
                  go_simp
                  with_reducible rfl
                rotate_left
                · simp only [Act.put, List.setIfInBounds_toArray, List.set_cons_zero, List.set_cons_succ, i64_w, i32_w]
                  rfl
                refine one_ (i := 5) (N := some 17) #[true, true, true, true, true, true, false, false, false, false] rfl rfl (one_of HT_.out (by kernel_rfl)) (by decide) (fun K hK => ?_)
                refine Kd.R_append_rows_step (Kd.int .u8) (w0 := w) w.heap.size (by rfl) (.const (.slice none 0 0)) (.tmp 16) 26 5 (.int .u8 0) 1 rfl Try.underlying26 info5 rfl (by decide) (by omega) (.slice none 0 0) ([] : List Int) ((rd_T40 l0 x8_1).f1) _ _ _ (fun _ => True) (fun _ => False) rfl rfl ?aO ?aR (fun _ _ h => h) (fun _ h => h.elim) ?aF ?aB ?aS ?aL ?_
                (case aR => repeat (first | exact (Kd.C_below HR381_1.out HB.out) | (with_reducible refine Kd.C_alloc ?_ _) | (with_reducible refine Kd.C_drewN ?_ _) | (with_reducible refine Kd.C_drew ?_)))
                (case aB => exact (by repeat (first | (with_reducible first | exact HB.out | apply below_alloc | apply pw_below_drewN | apply below_drew1 | refine below_set ?_ GE382.out) | exact HB.out)))
                (case aF => exact (fun _ _ => trivial))
                (case aO => exact ((Kd.R_nil _ _ _ _ (fun _ => True))))
                (case aS => exact (below_size (by repeat (first | (with_reducible first | exact HB.out | apply below_alloc | apply pw_below_drewN | apply below_drew1 | refine below_set ?_ GE382.out) | exact HB.out))))
                (case aL => have := LMc5.out; omega)
                intro v384 w11 ho hb hg hat
                rw [← Ny383.out] at ho
                have n0_ := Aside0.mk (Kd.S_after (Kd.S_apart_nil (by (with_reducible repeat (first | apply Kd.S_alloc | apply Kd.S_drewN | apply Kd.S_drew)); exact HO_3.out)) hg hat)
                have n1_ := Aside0.mk (blk_grown (g := gb382) (o := .cells #[.int .i64 ((rd_T40 l0 x8_1).f0), .slice A381_1 ((rd_T40 l0 x8_1).f1).length c381_1] 40 (0, 0)) (by (with_reducible repeat (first | refine blk_drewN ?_ _ | refine blk_drew ?_ | refine blk_alloc ?_ _)); exact BK382.out) hg (by simp [Value.ownBlock]))
                have n2_ := Aside0.mk (hb)
                have n3_ := Aside0.mk (ho)
                clear HO_3
                clear BK382
                clear HB
                have HO_3 := n0_
                have BK382 := n1_
                have HB := n2_
                have HO385 := n3_
                clear n0_ n1_ n2_ n3_
                clear ho hb hg hat
                obtain ⟨Ao12, co12, eo12⟩ := Kd.R_slice HO385.out
                (first | subst eo12 | (injection eo12 with f1_ f2_ f3_; have f4_ := f1_.symm; have f5_ := f3_.symm; clear f1_ f2_ f3_; subst f4_; subst f5_))
                refine hK.out _ _ ⟨(blk_cell BK382.out 0).trans rfl, (blk_cell BK382.out 1).trans rfl⟩ (fun hHeld => ?_)
                clear hK K
                refine norm_ (a' := ?_) ?_ ?_
                rotate_left
                · show Act.put _ (some 17) _ = _
                  simp only [Act.put, List.setIfInBounds_toArray, List.set_cons_zero, List.set_cons_succ, i64_w, i32_w]
                  rfl
                refine pure_ (i := 6) (N := some 18) (v := ?_) (a' := ?_) #[true, true, true, true, true, true, true, false, false, false] rfl rfl (any_of HT_.out (by kernel_rfl)) (fun _ _ _ h => h) (Or.inl ⟨by rfl, ?_⟩) ?_ ?_
                rotate_left
                · intro w'
                  go_simp
                  with_reducible rfl
                rotate_left
                · simp only [Act.put, List.setIfInBounds_toArray, List.set_cons_zero, List.set_cons_succ, i64_w, i32_w]
                  rfl
                refine one_ (i := 7) (N := some 19) #[true, true, true, true, true, true, true, true, false, false] rfl rfl (one_of HT_.out (by kernel_rfl)) (by decide) (fun K hK => ?_)
                refine value_ (w1 := ?_) (v := ?_) (by rfl) rfl ?_ ?_
                rotate_left 2
                · go_simp
                  constructor
                  · rfl
                  · rfl
                refine hK.out _ _ ⟨(blk_cell (blk_alloc BK382.out _) 0).trans rfl, (blk_cell (blk_alloc BK382.out _) 1).trans rfl⟩ (fun hHeld => ?_)
                clear hK K
                refine norm_ (a' := ?_) ?_ ?_
                rotate_left
                · show Act.put _ (some 19) _ = _
                  simp only [Act.put, List.setIfInBounds_toArray, List.set_cons_zero, List.set_cons_succ, i64_w, i32_w]
                  rfl
                refine one_ (i := 8) (N := some 20) #[true, true, true, true, true, true, true, true, true, false] rfl rfl (one_of HT_.out (by kernel_rfl)) (by decide) (fun K hK => ?_)
                refine Kd.S_append_step k40 (w0 := w) w.heap.size (by rfl) (.tmp 12) (.tmp 19) 33 40 (.agg #[(.int .i64 0), (.slice none 0 0)]) 32 rfl Try.underlying33 info40 rfl (by decide) (by omega) u3 x3_1 (⟨(rd_T40 l0 x8_1).f0, y383⟩ : S40) [.int .i64 ((rd_T40 l0 x8_1).f0), .slice Ao12 y383.length co12] (fun k_ => k_ ≠ gb382) (fun k_ => some k_ = (.slice Ao12 y383.length co12 : Value).ownBlock) rfl rfl ?aP (fun k_ hk_ => ((Kd.R_mono (ok' := fun k_ => ((fun k_ => k_ ≠ gb382)) k_ ∧ some k_ ≠ (u3 : Value).ownBlock) (Kd.R_types (Kd.R_apart' (HO385.out) (Kd.S_typed HO_3.out) (by decide)) BK382.out (by decide)) (fun k_ hk => ⟨hk.2, hk.1.2⟩))).1 k_ hk_.symm) ?aF ?aO ?aB ?aS ?aL ?_
                (case aP => exact k40_mkM _ _ _ (⟨(rd_T40 l0 x8_1).f0, y383⟩ : S40) (Kd.R_mono (Kd.R_tight rfl (Kd.R_mono (ok' := fun k_ => ((fun k_ => k_ ≠ gb382)) k_ ∧ some k_ ≠ (u3 : Value).ownBlock) (Kd.R_types (Kd.R_apart' (HO385.out) (Kd.S_typed HO_3.out) (by decide)) BK382.out (by decide)) (fun k_ hk => ⟨hk.2, hk.1.2⟩))) (fun _ h_ => h_)))
                (case aB => exact (by repeat (first | (with_reducible first | exact HB.out | apply below_alloc | apply pw_below_drewN | apply below_drew1 | refine below_set ?_ GE382.out) | exact HB.out)))
                (case aF => exact (fun k_ hk => Kd.freshB (g := gb382) (o := .cells #[.int .i64 ((rd_T40 l0 x8_1).f0), .slice A381_1 ((rd_T40 l0 x8_1).f1).length c381_1] 40 (0, 0)) (by (with_reducible repeat (first | refine blk_drewN ?_ _ | refine blk_drew ?_ | refine blk_alloc ?_ _)); exact BK382.out) k_ hk))
                (case aO => exact (by (with_reducible repeat (first | apply Kd.S_alloc | apply Kd.S_drewN | apply Kd.S_drew)); exact Kd.S_mono HO_3.out (fun k_ hk => ⟨hk.1, fun e_ => hk.2 e_⟩)))
                (case aS => exact (below_size (by repeat (first | (with_reducible first | exact HB.out | apply below_alloc | apply pw_below_drewN | apply below_drew1 | refine below_set ?_ GE382.out) | exact HB.out))))
                (case aL => have := LMc6.out; omega)
                intro v387 w13 ho hb hg hat
                rw [← Ny386.out] at ho
                have n0_ := Aside0.mk (blk_grown (g := gb382) (o := .cells #[.int .i64 ((rd_T40 l0 x8_1).f0), .slice A381_1 ((rd_T40 l0 x8_1).f1).length c381_1] 40 (0, 0)) (by (with_reducible repeat (first | refine blk_drewN ?_ _ | refine blk_drew ?_ | refine blk_alloc ?_ _)); exact BK382.out) hg (Kd.S_away HO_3.out (fun _ hk => hk.1)))
                have n1_ := Aside0.mk (hb)
                have n2_ := Aside0.mk (ho)
                clear BK382
                clear HB
                clear HO_3
                clear HO385
                have BK382 := n0_
                have HB := n1_
                have HO388 := n2_
                clear n0_ n1_ n2_
                clear ho hb hg hat
                refine hK.out _ _ ⟨(blk_cell BK382.out 0).trans rfl, (blk_cell BK382.out 1).trans rfl⟩ (fun hHeld => ?_)
                clear hK K
                refine norm_ (a' := ?_) ?_ ?_
                rotate_left
                · show Act.put _ (some 20) _ = _
                  simp only [Act.put, List.setIfInBounds_toArray, List.set_cons_zero, List.set_cons_succ, i64_w, i32_w]
                  rfl
                refine pure_ (i := 9) (N := some 3) (v := ?_) (a' := ?_) #[true, true, true, true, true, true, true, true, true, true] rfl rfl (any_of HT_.out (by kernel_rfl)) (fun _ _ _ h => h) (Or.inl ⟨by rfl, ?_⟩) ?_ ?_
                rotate_left
                · intro w'
                  go_simp
                  with_reducible rfl
                rotate_left
                · simp only [Act.put, List.setIfInBounds_toArray, List.set_cons_zero, List.set_cons_succ, i64_w, i32_w]
                  rfl
                refine done_ (done_of HT_.out (by kernel_rfl)) ?_
                try go_wp2
                go_roundg k1
                case measure => have := HK1.out; omega
                case rel => exact ⟨(y386), (wrap64 (x8_1 + 1)), (by first | rfl | (simp; done) | (simp [*]; done)), H', ⟨by have := HK1.out; omega⟩, ⟨by (with_reducible repeat (first | apply Kd.S_alloc | apply Kd.S_drewN | apply Kd.S_drew)); exact Kd.S_mono HO388.out (fun _ hk => trivial)⟩, ⟨by repeat (first | (with_reducible first | exact HB.out | apply below_alloc | apply pw_below_drewN | apply below_drew1 | refine below_set ?_ GE382.out) | exact HB.out)⟩⟩
              · rw [if_neg c6] at H
                exact absurd H (by simp)
            · rw [if_neg c5] at H
              exact absurd H (by simp)
          · rw [if_neg c4] at H
            exact absurd H (by simp)
        · rw [if_neg c3] at H
          exact absurd H (by simp)
      · rw [if_neg c2] at H
        have c2b0 : decide (x8_1 < (l0.length : Int)) = false := decide_eq_false c2
        clear c2
        obtain rfl := Option.some.inj H
        go_wp2
        go_ret
        exact ⟨_, by first | rfl | (simp [errW_none, errW_some] <;> rfl) | (simp [*, errW_none, errW_some] <;> rfl), by (with_reducible repeat (first | apply Kd.S_alloc | apply Kd.S_drewN | apply Kd.S_drew)); exact HO_3.out, by repeat (first | (with_reducible first | exact HB.out | apply below_alloc | apply pw_below_drewN | apply below_drew1) | exact HB.out)⟩

/-! ### thrumref21_Send: function 44 -/
def thrumref21_Send.l0 : Nat → List (S40) → Int → List (S40) → Int → Int → Option ((List (S40)) × Int)
  | 0, _, _, _, _, _ => none
  | k + 1, x6, x7, x12, x13, x14 => if x14 < x13 then (if 0 ≤ x14 then (if x14 < (x12.length : Int) then (if (x6.length : Int) ≥ 512 then (thrumref21_Send.l0 k x6 (wrap64 (x7 + 1)) x12 x13 (wrap64 (x14 + 1))) else (if ([] : List Int).length + ((rd_T40 x12 x14).f1).length < 140737488355328 then (if x6.length < 4398046511104 then (thrumref21_Send.l0 k (x6 ++ [(⟨(rd_T40 x12 x14).f0, (([] : List Int) ++ ((rd_T40 x12 x14).f1))⟩ : S40)]) x7 x12 x13 (wrap64 (x14 + 1))) else (none)) else (none))) else (none)) else (none)) else (some (x6, x7))
def thrumref21_Send.f (k : Nat) (l0 : List (S40)) (l1 : List (S40)) : Option ((List (S40)) × Int) := (thrumref21_Copy.f k l0).bind fun t389 => (thrumref21_Send.l0 k t389 0 l1 (l1.length : Int) 0)
theorem thrumref21_Send.mono_l : ∀ k, (∀ y0 y1 y2 y3 y4, LeO (thrumref21_Send.l0 k y0 y1 y2 y3 y4) (thrumref21_Send.l0 (k + 1) y0 y1 y2 y3 y4))
  | 0 => fun _ _ _ _ _ r h => by simp [thrumref21_Send.l0] at h
  | k + 1 => by
    have ih0 := thrumref21_Send.mono_l k
    · intro y0 y1 y2 y3 y4
      unfold thrumref21_Send.l0
      repeat' first
      | (with_reducible exact ih0 _ _ _ _ _)
      | (with_reducible exact thrumref21_Copy.mono _ _)
      | (with_reducible exact LeO.refl _)
      | (with_reducible exact LeO.none _)
      | (with_reducible refine LeO.ite ?_ ?_)
      | (with_reducible refine LeO.bind ?_ (fun _ => ?_))
      | exact ih0 _ _ _ _ _
      | exact thrumref21_Copy.mono _ _
      | exact LeO.none _
      | refine LeO.ite ?_ ?_
      | refine LeO.bind ?_ (fun _ => ?_)
theorem thrumref21_Send.mono : ∀ a0 a1 k, LeO (thrumref21_Send.f k a0 a1) (thrumref21_Send.f (k + 1) a0 a1) := by
  intro a0 a1 k
  have ih0 := thrumref21_Send.mono_l k
  unfold thrumref21_Send.f
  repeat' first
      | (with_reducible exact ih0 _ _ _ _ _)
      | (with_reducible exact thrumref21_Copy.mono _ _)
      | (with_reducible exact LeO.refl _)
      | (with_reducible exact LeO.none _)
      | (with_reducible refine LeO.ite ?_ ?_)
      | (with_reducible refine LeO.bind ?_ (fun _ => ?_))
      | exact ih0 _ _ _ _ _
      | exact thrumref21_Copy.mono _ _
      | exact LeO.none _
      | refine LeO.ite ?_ ?_
      | refine LeO.bind ?_ (fun _ => ?_)
def thrumref21_Send.T8 : Bool × List (List Nat × List Nat) := (true, [([], []), ([], []), ([1], [1]), ([], []), ([3], [3]), ([4], [4]), ([2, 5], [2, 5]), ([6], [6]), ([0, 7, 5], [0, 7]), ([8, 8, 0, 1, 2, 3, 4, 5, 6, 7, 8], [0, 8])])
def thrumref21_Send.B8 : List Nat := [0, 0, 2, 0, 8, 24, 62, 126, 255, 511]
theorem thrumref21_Send.tab8 : rtab .any (opsOf Try.f44 8) = thrumref21_Send.T8 := by kernel_rfl
theorem thrumref21_Send.bits8 : waitsOk thrumref21_Send.T8.2 thrumref21_Send.B8 = true := by kernel_rfl
set_option maxHeartbeats 8000000 in
set_option maxRecDepth 100000 in
theorem thrumref21_Send.calls (k : Nat) (A0 : Option Addr) (c0 : Nat) (l0 : List (S40)) (A1 : Option Addr) (c1 : Nat) (l1 : List (S40)) (r1 : List (S40)) (r2 : Int) (w : World) (hr0 : Kd.C k40 w A0 l0.length l0) (hc0 : l0.length ≤ c0) (hr1 : Kd.C k40 w A1 l1.length l1) (hc1 : l1.length ≤ c1) (h : thrumref21_Send.f k l0 l1 = some (r1, r2)) :
    Calls Try.prog 44 #[.slice A0 l0.length c0, .slice A1 l1.length c1] w fun e w' => ∃ v0_ : Value, e = .returned (.tuple #[v0_, .int .i64 r2]) ∧ Kd.S k40 40 w' w.heap.size (fun _ => True) v0_ r1 ∧ Below w.heap.size w w' := by
  have hu40 := Try.underlying40
  have HR0 := Aside0.mk hr0
  have HC0 := Aside0.mk hc0
  clear hr0 hc0
  have HR1 := Aside0.mk hr1
  have HC1 := Aside0.mk hc1
  clear hr1 hc1
  have HB := Aside0.mk (Below.refl w.heap.size w)
  have H : ((thrumref21_Copy.f k l0).bind fun t389 => (thrumref21_Send.l0 k t389 0 l1 (l1.length : Int) 0)) = some (r1, r2) := h
  clear h
  replace H := Option.bind_eq_some_iff.mp H
  obtain ⟨t389, A30, H⟩ := H
  replace H : (thrumref21_Send.l0 k t389 0 l1 (l1.length : Int) 0) = some (r1, r2) := H
  have A3 := Aside0.mk A30
  clear A30
  have H' := Aside0.mk H
  clear H
  go_enter Try.func44, Try.ntmps44
  go_wp2_with (first | ((with_reducible refine gate_callee (f := 43) rfl ?_); refine goesL_ (some 11) rfl rfl Try.func43 (by kernel_rfl) rfl #[.slice A0 l0.length c0] rfl (by (try simp only [List.map_toArray, List.map_cons, List.map_nil]); first | done | rfl | (simp only [List.length_drop, List.length_take]; rfl)) ?_; (with_reducible refine (thrumref21_Copy.calls k _ _ l0 t389 _ ?side1 ?side2 A3.out).mono ?_); (case side1 => repeat (first | exact HR0.out | (with_reducible refine Kd.C_alloc ?_ _) | (with_reducible refine Kd.C_drewN ?_ _) | (with_reducible refine Kd.C_drew ?_))); (case side2 => exact HC0.out); rintro e w4 ⟨v390, rfl, ho0, hb⟩; refine ⟨_, rfl, ?_⟩; have n0_ := Aside0.mk (Kd.S_lower ho0 (below_size (by repeat (first | (with_reducible first | exact HB.out | apply below_alloc | apply pw_below_drewN | apply below_drew1) | exact HB.out)))); have n1_ := Aside0.mk (below_step (by repeat (first | (with_reducible first | exact HB.out | apply below_alloc | apply pw_below_drewN | apply below_drew1) | exact HB.out)) hb); clear HB; have HO391 := n0_; have HB := n1_; clear n0_ n1_; (try clear hb); (try clear hb2); (try clear hk); (try clear hi); (try clear ho0)))
  go_loopg [6, 7, 14] k (fun kq v6 v7 v14 w' => ∃ (x6_1 : List (S40)) (x7_1 : Int) (x14_1 : Int), v7 = .int .i64 x7_1 ∧ v14 = .int .i64 x14_1 ∧ Aside0 (thrumref21_Send.l0 kq x6_1 x7_1 l1 (l1.length : Int) x14_1 = some (r1, r2)) ∧ Aside0 (kq ≤ k) ∧ Aside0 (Kd.S k40 40 w' w.heap.size (fun _ => True) v6 x6_1) ∧ Aside0 (Below w.heap.size w w'))
  case atStart => exact ⟨(t389), (0), (0), (by first | rfl | (simp; done) | (simp [*]; done)), (by first | rfl | (simp; done) | (simp [*]; done)), H', ⟨Nat.le_refl _⟩, ⟨by (with_reducible repeat (first | apply Kd.S_alloc | apply Kd.S_drewN | apply Kd.S_drew)); exact HO391.out⟩, ⟨by repeat (first | (with_reducible first | exact HB.out | apply below_alloc | apply pw_below_drewN | apply below_drew1) | exact HB.out)⟩⟩
  case round =>
    clear H'
    try clear c1
    try clear p2
    try clear c4
    obtain ⟨x6_1, x7_1, x14_1, rfl, rfl, HA, HK1, HO_6, HB⟩ := hrel
    cases gk with
    | zero => exact absurd HA.out (by simp [thrumref21_Send.l0])
    | succ k1 =>
      have H := HA.out
      clear HA
      simp only [thrumref21_Send.l0] at H
      by_cases c5 : x14_1 < (l1.length : Int)
      · rw [if_pos c5] at H
        have c5b0 : decide (x14_1 < (l1.length : Int)) = true := decide_eq_true c5
        clear c5
        by_cases c6 : 0 ≤ x14_1
        · rw [if_pos c6] at H
          have c6b0 : decide (0 ≤ x14_1) = true := decide_eq_true c6
          clear c6
          by_cases c7 : x14_1 < (l1.length : Int)
          · rw [if_pos c7] at H
            have c7b0 : decide (x14_1 < (l1.length : Int)) = true := decide_eq_true c7
            clear c7
            by_cases c8 : (x6_1.length : Int) ≥ 512
            · rw [if_pos c8] at H
              have c8b0 : decide (512 ≤ (x6_1.length : Int)) = true := decide_eq_true c8
              have c8b1 : decide (512 ≤ x6_1.length) = true := decide_eq_true (by omega)
              clear c8
              have H' := Aside0.mk H
              clear H
              have p392 : 0 ≤ (x14_1 : Int) := of_decide_eq_true (by first | (with_reducible assumption) | assumption)
              have q392 : x14_1 < (l1.length : Int) := of_decide_eq_true (by first | (with_reducible assumption) | assumption)
              obtain ⟨ad392, A392_1, c392_1, e392, hx392_0, hx392_1, hl392_1, hi392_1⟩ := at_T40 HR1.out x14_1 p392 q392
              cases e392
              replace hx392_0 := (HB.out.cell (World.block_lt_of_cell? w _ hx392_0)).trans hx392_0
              replace hx392_1 := (HB.out.cell (World.block_lt_of_cell? w _ hx392_1)).trans hx392_1
              have HR392_1 := Aside0.mk hi392_1
              have HC392_1 := Aside0.mk hl392_1
              clear hi392_1 hl392_1
              replace p392 := eq_true p392; (try (have p392s := p392; rw [List.length_drop] at p392s)); (try (have p392t := p392; rw [List.length_take] at p392t))
              replace q392 := eq_true q392; (try (have q392s := q392; rw [List.length_drop] at q392s)); (try (have q392t := q392; rw [List.length_take] at q392t))
              go_wp2_with (first | ((with_reducible refine gate_dst (N := 9) rfl ?_); refine box_event ?hg (N := 9) ?hd (cs := #[.int .i64 0, .slice none 0 0]) (t := 40) ?hr ?_; (case hd => rfl); (case hg => rfl); (case hr => first | (go_simp; done) | (go_simp; rfl)); intro gb393 hg w9 hbox hb; have n0_ := Aside0.mk (Kd.S_below (Kd.S_elderB (by (with_reducible repeat (first | apply Kd.S_alloc | apply Kd.S_drewN | apply Kd.S_drew)); exact HO_6.out) gb393 (Nat.le_of_eq hg.symm)) hb); have n1_ := Aside0.mk (below_step (by repeat (first | (with_reducible first | exact HB.out | apply below_alloc | apply pw_below_drewN | apply below_drew1) | exact HB.out)) hb); have n2_ := Aside0.mk (hbox); have n3_ := Aside0.mk ((by rw [hg]; exact (below_size (by repeat (first | (with_reducible first | exact HB.out | apply below_alloc | apply pw_below_drewN | apply below_drew1) | exact HB.out))) : w.heap.size ≤ gb393)); have n4_ := Aside0.mk ((by rw [hg]; exact (below_size (by repeat (first | (with_reducible first | exact HB.out | apply below_alloc | apply pw_below_drewN | apply below_drew1) | exact HB.out))) : w.heap.size ≤ gb393)); clear HO_6; clear HB; have HO_6 := n0_; have HB := n1_; have BK393 := n2_; have GW393 := n3_; have GE393 := n4_; clear n0_ n1_ n2_ n3_ n4_; clear hb hbox hg; have hcz10_0 : w9.cell? ⟨gb393, 0, none⟩ = some (.int .i64 0) := (blk_cell BK393.out 0).trans rfl; have hcz10_1 : w9.cell? ⟨gb393, 1, none⟩ = some (.slice none 0 0) := (blk_cell BK393.out 1).trans rfl; have hfz10_0 := blk_frozen BK393.out 0; have hfz10_1 := blk_frozen BK393.out 1; obtain ⟨Ao11, co11, eo11⟩ := Kd.S_slice HO_6.out; subst eo11))
              go_roundg k1
              case measure => have := HK1.out; omega
              case rel => exact ⟨(x6_1), (wrap64 (x7_1 + 1)), (wrap64 (x14_1 + 1)), (by first | rfl | (simp; done) | (simp [*]; done)), (by first | rfl | (simp; done) | (simp [*]; done)), H', ⟨by have := HK1.out; omega⟩, ⟨by (with_reducible repeat (first | apply Kd.S_alloc | apply Kd.S_drewN | apply Kd.S_drew)); exact Kd.S_mono (Kd.S_far (p := ⟨gb393, 1, none⟩) (Kd.S_far (p := ⟨gb393, 0, none⟩) (Kd.S_mono HO_6.out (fun k_ hk => (⟨hk, hk.2⟩ : _ ∧ k_ ≠ gb393))) (fun _ hk => hk.2) (.int .i64 ((rd_T40 l1 x14_1).f0))) (fun _ hk => hk.2) (.slice A392_1 ((rd_T40 l1 x14_1).f1).length c392_1)) (fun _ hk => trivial)⟩, ⟨by repeat (first | (with_reducible first | exact HB.out | apply below_alloc | apply pw_below_drewN | apply below_drew1 | refine below_set ?_ GE393.out) | exact HB.out)⟩⟩
            · rw [if_neg c8] at H
              have c8b0 : decide (512 ≤ (x6_1.length : Int)) = false := decide_eq_false c8
              have c8b1 : decide (512 ≤ x6_1.length) = false := decide_eq_false (by omega)
              clear c8
              by_cases c12 : ([] : List Int).length + ((rd_T40 l1 x14_1).f1).length < 140737488355328
              · rw [if_pos c12] at H
                have LMc12 := Aside0.mk c12
                clear c12
                obtain ⟨y394, hy394⟩ : ∃ y_ : List Int, y_ = (([] : List Int) ++ ((rd_T40 l1 x14_1).f1)) := ⟨_, rfl⟩
                replace H : (if x6_1.length < 4398046511104 then (thrumref21_Send.l0 k1 (x6_1 ++ [(⟨(rd_T40 l1 x14_1).f0, y394⟩ : S40)]) x7_1 l1 (l1.length : Int) (wrap64 (x14_1 + 1))) else (none)) = some (r1, r2) := by first | (rw [hy394]; with_reducible exact H) | (have H2_ := (Option.bind_some _ _).symm.trans H; rw [hy394]; with_reducible exact H2_) | (have H2_ := (Option.bind_some _ _).symm.trans H; with_reducible exact H2_) | with_reducible exact H | (rw [hy394]; exact H) | exact H
                have Ny394 := Aside0.mk hy394
                clear hy394
                by_cases c13 : x6_1.length < 4398046511104
                · rw [if_pos c13] at H
                  have LMc13 := Aside0.mk c13
                  clear c13
                  obtain ⟨y397, hy397⟩ : ∃ y_ : List (S40), y_ = (x6_1 ++ [(⟨(rd_T40 l1 x14_1).f0, y394⟩ : S40)]) := ⟨_, rfl⟩
                  replace H : (thrumref21_Send.l0 k1 y397 x7_1 l1 (l1.length : Int) (wrap64 (x14_1 + 1))) = some (r1, r2) := by first | (rw [hy397]; with_reducible exact H) | (have H2_ := (Option.bind_some _ _).symm.trans H; rw [hy397]; with_reducible exact H2_) | (have H2_ := (Option.bind_some _ _).symm.trans H; with_reducible exact H2_) | with_reducible exact H | (rw [hy397]; exact H) | exact H
                  have Ny397 := Aside0.mk hy397
                  clear hy397
                  have H' := Aside0.mk H
                  clear H
                  have p392 : 0 ≤ (x14_1 : Int) := of_decide_eq_true (by first | (with_reducible assumption) | assumption)
                  have q392 : x14_1 < (l1.length : Int) := of_decide_eq_true (by first | (with_reducible assumption) | assumption)
                  obtain ⟨ad392, A392_1, c392_1, e392, hx392_0, hx392_1, hl392_1, hi392_1⟩ := at_T40 HR1.out x14_1 p392 q392
                  cases e392
                  replace hx392_0 := (HB.out.cell (World.block_lt_of_cell? w _ hx392_0)).trans hx392_0
                  replace hx392_1 := (HB.out.cell (World.block_lt_of_cell? w _ hx392_1)).trans hx392_1
                  have HR392_1 := Aside0.mk hi392_1
                  have HC392_1 := Aside0.mk hl392_1
                  clear hi392_1 hl392_1
                  replace p392 := eq_true p392; (try (have p392s := p392; rw [List.length_drop] at p392s)); (try (have p392t := p392; rw [List.length_take] at p392t))
                  replace q392 := eq_true q392; (try (have q392s := q392; rw [List.length_drop] at q392s)); (try (have q392t := q392; rw [List.length_take] at q392t))
                  try go_wp2_with (first | ((with_reducible refine gate_dst (N := 9) rfl ?_); refine box_event ?hg (N := 9) ?hd (cs := #[.int .i64 0, .slice none 0 0]) (t := 40) ?hr ?_; (case hd => rfl); (case hg => rfl); (case hr => first | (go_simp; done) | (go_simp; rfl)); intro gb393 hg w14 hbox hb; have n0_ := Aside0.mk (Kd.S_below (Kd.S_elderB (by (with_reducible repeat (first | apply Kd.S_alloc | apply Kd.S_drewN | apply Kd.S_drew)); exact HO_6.out) gb393 (Nat.le_of_eq hg.symm)) hb); have n1_ := Aside0.mk (below_step (by repeat (first | (with_reducible first | exact HB.out | apply below_alloc | apply pw_below_drewN | apply below_drew1) | exact HB.out)) hb); have n2_ := Aside0.mk (hbox); have n3_ := Aside0.mk ((by rw [hg]; exact (below_size (by repeat (first | (with_reducible first | exact HB.out | apply below_alloc | apply pw_below_drewN | apply below_drew1) | exact HB.out))) : w.heap.size ≤ gb393)); have n4_ := Aside0.mk ((by rw [hg]; exact (below_size (by repeat (first | (with_reducible first | exact HB.out | apply below_alloc | apply pw_below_drewN | apply below_drew1) | exact HB.out))) : w.heap.size ≤ gb393)); clear HO_6; clear HB; have HO_6 := n0_; have HB := n1_; have BK393 := n2_; have GW393 := n3_; have GE393 := n4_; clear n0_ n1_ n2_ n3_ n4_; clear hb hbox hg; have hcz15_0 : w14.cell? ⟨gb393, 0, none⟩ = some (.int .i64 0) := (blk_cell BK393.out 0).trans rfl; have hcz15_1 : w14.cell? ⟨gb393, 1, none⟩ = some (.slice none 0 0) := (blk_cell BK393.out 1).trans rfl; have hfz15_0 := blk_frozen BK393.out 0; have hfz15_1 := blk_frozen BK393.out 1; obtain ⟨Ao16, co16, eo16⟩ := Kd.S_slice HO_6.out; subst eo16))
                  have n0_ : Aside0 (Kd.S k40 40 ((w14.setCell ⟨gb393, 0, none⟩ (.int .i64 ((rd_T40 l1 x14_1).f0))).setCell ⟨gb393, 1, none⟩ (.slice A392_1 ((rd_T40 l1 x14_1).f1).length c392_1)) w.heap.size (fun k_ => k_ ≠ gb393) (.slice Ao16 x6_1.length co16) x6_1) := ⟨by (with_reducible repeat (first | apply Kd.S_alloc | apply Kd.S_drewN | apply Kd.S_drew)); exact Kd.S_mono (Kd.S_far (p := ⟨gb393, 1, none⟩) (Kd.S_far (p := ⟨gb393, 0, none⟩) (Kd.S_mono HO_6.out (fun k_ hk => (⟨hk, hk.2⟩ : _ ∧ k_ ≠ gb393))) (fun _ hk => hk.2) (.int .i64 ((rd_T40 l1 x14_1).f0))) (fun _ hk => hk.2) (.slice A392_1 ((rd_T40 l1 x14_1).f1).length c392_1)) (fun _ hk => hk.1.2)⟩
                  have n1_ : Aside0 (((w14.setCell ⟨gb393, 0, none⟩ (.int .i64 ((rd_T40 l1 x14_1).f0))).setCell ⟨gb393, 1, none⟩ (.slice A392_1 ((rd_T40 l1 x14_1).f1).length c392_1)).heap[gb393]? = some (.cells #[.int .i64 ((rd_T40 l1 x14_1).f0), .slice A392_1 ((rd_T40 l1 x14_1).f1).length c392_1] 40 (0, 0))) := ⟨by (with_reducible repeat (first | refine blk_drewN ?_ _ | refine blk_drew ?_ | refine blk_alloc ?_ _)); refine blk_put (cs := #[.int .i64 ((rd_T40 l1 x14_1).f0), .slice none 0 0]) ?_ 1 _ rfl; (with_reducible repeat (first | refine blk_drewN ?_ _ | refine blk_drew ?_ | refine blk_alloc ?_ _)); refine blk_put (cs := #[.int .i64 0, .slice none 0 0]) ?_ 0 _ rfl; (with_reducible repeat (first | refine blk_drewN ?_ _ | refine blk_drew ?_ | refine blk_alloc ?_ _)); exact BK393.out⟩
                  have n2_ : Aside0 (Below w.heap.size w ((w14.setCell ⟨gb393, 0, none⟩ (.int .i64 ((rd_T40 l1 x14_1).f0))).setCell ⟨gb393, 1, none⟩ (.slice A392_1 ((rd_T40 l1 x14_1).f1).length c392_1))) := ⟨by repeat (first | (with_reducible first | exact HB.out | apply below_alloc | apply pw_below_drewN | apply below_drew1 | refine below_set ?_ GE393.out) | exact HB.out)⟩
                  (try clear HO_6)
                  (try clear BK393)
                  (try clear HB)
                  generalize ((w14.setCell ⟨gb393, 0, none⟩ (.int .i64 ((rd_T40 l1 x14_1).f0))).setCell ⟨gb393, 1, none⟩ (.slice A392_1 ((rd_T40 l1 x14_1).f1).length c392_1)) = w17 at n0_ n1_ n2_ ⊢
                  have HO_6 := n0_
                  have BK393 := n1_
                  have HB := n2_
                  clear n0_ n1_ n2_
                  have n0_ := Aside0.mk (Kd.S_drew HO_6.out)
                  have n1_ := Aside0.mk (blk_drew BK393.out)
                  have n2_ := Aside0.mk (below_drew1 HB.out)
                  clear HO_6
                  clear BK393
                  clear HB
                  have HO_6 := n0_
                  have BK393 := n1_
                  have HB := n2_
                  clear n0_ n1_ n2_
                  refine start_ (n := 10) (S := fun w' => w'.cell? ⟨gb393, 0, none⟩ = some (.int .i64 ((rd_T40 l1 x14_1).f0)) ∧ w'.cell? ⟨gb393, 1, none⟩ = some (.slice A392_1 ((rd_T40 l1 x14_1).f1).length c392_1)) (ds := []) #[false, false, false, false, false, false, false, false, false, false] (by kernel_rfl) rfl rfl ⟨(blk_cell BK393.out 0).trans rfl, (blk_cell BK393.out 1).trans rfl⟩ (fun hHeld => ?_); refine with_tabW thrumref21_Send.tab8 thrumref21_Send.bits8 (fun HT_ HW_ => ?_)
                  generalize w17.drew = w18 at HO_6 BK393 HB hHeld ⊢
                  refine pure_ (i := 0) (N := some 23) (v := ?_) (a' := ?_) #[true, false, false, false, false, false, false, false, false, false] rfl rfl (any_of HT_.out (by kernel_rfl)) (fun _ _ _ h => h) (Or.inl ⟨by rfl, ?_⟩) ?_ ?_
                  rotate_left
                  · intro w'
                    go_simp
                    with_reducible rfl
                  rotate_left
                  · simp only [Act.put, List.setIfInBounds_toArray, List.set_cons_zero, List.set_cons_succ, i64_w, i32_w]
                    rfl
                  refine pure_ (i := 1) (N := some 24) (v := ?_) (a' := ?_) #[true, true, false, false, false, false, false, false, false, false] rfl rfl (any_of HT_.out (by kernel_rfl)) (fun _ _ _ h => h) (Or.inl ⟨by rfl, ?_⟩) ?_ ?_
                  rotate_left
                  · intro w'
                    go_simp
                    with_reducible rfl
                  rotate_left
                  · simp only [Act.put, List.setIfInBounds_toArray, List.set_cons_zero, List.set_cons_succ, i64_w, i32_w]
                    rfl
                  refine pure_ (i := 3) (N := some 26) (v := ?_) (a' := ?_) #[true, true, false, true, false, false, false, false, false, false] rfl rfl (any_of HT_.out (by kernel_rfl)) (fun _ _ _ h => h) (Or.inl ⟨by rfl, ?_⟩) ?_ ?_
                  rotate_left
                  · intro w'
                    go_simp
                    with_reducible rfl
                  rotate_left
                  · simp only [Act.put, List.setIfInBounds_toArray, List.set_cons_zero, List.set_cons_succ, i64_w, i32_w]
                    rfl
                  refine take_ (i := 2) (N := some 25) (v := ?_) (a' := ?_) #[true, true, true, true, false, false, false, false, false, false] rfl rfl (take_ofW HT_.out HW_.out (by kernel_rfl)) (fun _ _ _ h => h) (Or.inl ⟨by rfl, ?_⟩) hHeld ?_ ?_
                  rotate_left
                  · rintro w' ⟨s0, s1⟩
                    go_simp
                    with_reducible rfl
                  rotate_left
                  · simp only [Act.put, List.setIfInBounds_toArray, List.set_cons_zero, List.set_cons_succ, i64_w, i32_w]
                    rfl
                  refine take_ (i := 4) (N := some 27) (v := ?_) (a' := ?_) #[true, true, true, true, true, false, false, false, false, false] rfl rfl (take_ofW HT_.out HW_.out (by kernel_rfl)) (fun _ _ _ h => h) (Or.inl ⟨by rfl, ?_⟩) hHeld ?_ ?_
                  rotate_left
                  · rintro w' ⟨s0, s1⟩
                    go_simp
                    with_reducible rfl
                  rotate_left
                  · simp only [Act.put, List.setIfInBounds_toArray, List.set_cons_zero, List.set_cons_succ, i64_w, i32_w]
                    rfl
                  refine one_ (i := 5) (N := some 28) #[true, true, true, true, true, true, false, false, false, false] rfl rfl (one_of HT_.out (by kernel_rfl)) (by decide) (fun K hK => ?_)
                  refine Kd.R_append_rows_step (Kd.int .u8) (w0 := w) w.heap.size (by rfl) (.const (.slice none 0 0)) (.tmp 27) 26 5 (.int .u8 0) 1 rfl Try.underlying26 info5 rfl (by decide) (by omega) (.slice none 0 0) ([] : List Int) ((rd_T40 l1 x14_1).f1) _ _ _ (fun _ => True) (fun _ => False) rfl rfl ?aO ?aR (fun _ _ h => h) (fun _ h => h.elim) ?aF ?aB ?aS ?aL ?_
                  (case aR => repeat (first | exact (Kd.C_below HR392_1.out HB.out) | (with_reducible refine Kd.C_alloc ?_ _) | (with_reducible refine Kd.C_drewN ?_ _) | (with_reducible refine Kd.C_drew ?_)))
                  (case aB => exact (by repeat (first | (with_reducible first | exact HB.out | apply below_alloc | apply pw_below_drewN | apply below_drew1 | refine below_set ?_ GE393.out) | exact HB.out)))
                  (case aF => exact (fun _ _ => trivial))
                  (case aO => exact ((Kd.R_nil _ _ _ _ (fun _ => True))))
                  (case aS => exact (below_size (by repeat (first | (with_reducible first | exact HB.out | apply below_alloc | apply pw_below_drewN | apply below_drew1 | refine below_set ?_ GE393.out) | exact HB.out))))
                  (case aL => have := LMc12.out; omega)
                  intro v395 w19 ho hb hg hat
                  rw [← Ny394.out] at ho
                  have n0_ := Aside0.mk (Kd.S_after (Kd.S_apart_nil (by (with_reducible repeat (first | apply Kd.S_alloc | apply Kd.S_drewN | apply Kd.S_drew)); exact HO_6.out)) hg hat)
                  have n1_ := Aside0.mk (blk_grown (g := gb393) (o := .cells #[.int .i64 ((rd_T40 l1 x14_1).f0), .slice A392_1 ((rd_T40 l1 x14_1).f1).length c392_1] 40 (0, 0)) (by (with_reducible repeat (first | refine blk_drewN ?_ _ | refine blk_drew ?_ | refine blk_alloc ?_ _)); exact BK393.out) hg (by simp [Value.ownBlock]))
                  have n2_ := Aside0.mk (hb)
                  have n3_ := Aside0.mk (ho)
                  clear HO_6
                  clear BK393
                  clear HB
                  have HO_6 := n0_
                  have BK393 := n1_
                  have HB := n2_
                  have HO396 := n3_
                  clear n0_ n1_ n2_ n3_
                  clear ho hb hg hat
                  obtain ⟨Ao20, co20, eo20⟩ := Kd.R_slice HO396.out
                  (first | subst eo20 | (injection eo20 with f1_ f2_ f3_; have f4_ := f1_.symm; have f5_ := f3_.symm; clear f1_ f2_ f3_; subst f4_; subst f5_))
                  refine hK.out _ _ ⟨(blk_cell BK393.out 0).trans rfl, (blk_cell BK393.out 1).trans rfl⟩ (fun hHeld => ?_)
                  clear hK K
                  refine norm_ (a' := ?_) ?_ ?_
                  rotate_left
                  · show Act.put _ (some 28) _ = _
                    simp only [Act.put, List.setIfInBounds_toArray, List.set_cons_zero, List.set_cons_succ, i64_w, i32_w]
                    rfl
                  refine pure_ (i := 6) (N := some 29) (v := ?_) (a' := ?_) #[true, true, true, true, true, true, true, false, false, false] rfl rfl (any_of HT_.out (by kernel_rfl)) (fun _ _ _ h => h) (Or.inl ⟨by rfl, ?_⟩) ?_ ?_
                  rotate_left
                  · intro w'
                    go_simp
                    with_reducible rfl
                  rotate_left
                  · simp only [Act.put, List.setIfInBounds_toArray, List.set_cons_zero, List.set_cons_succ, i64_w, i32_w]
                    rfl
                  refine one_ (i := 7) (N := some 30) #[true, true, true, true, true, true, true, true, false, false] rfl rfl (one_of HT_.out (by kernel_rfl)) (by decide) (fun K hK => ?_)
                  refine value_ (w1 := ?_) (v := ?_) (by rfl) rfl ?_ ?_
                  rotate_left 2
                  · go_simp
                    constructor
                    · rfl
                    · rfl
                  refine hK.out _ _ ⟨(blk_cell (blk_alloc BK393.out _) 0).trans rfl, (blk_cell (blk_alloc BK393.out _) 1).trans rfl⟩ (fun hHeld => ?_)
                  clear hK K
                  refine norm_ (a' := ?_) ?_ ?_
                  rotate_left
                  · show Act.put _ (some 30) _ = _
                    simp only [Act.put, List.setIfInBounds_toArray, List.set_cons_zero, List.set_cons_succ, i64_w, i32_w]
                    rfl
                  refine one_ (i := 8) (N := some 31) #[true, true, true, true, true, true, true, true, true, false] rfl rfl (one_of HT_.out (by kernel_rfl)) (by decide) (fun K hK => ?_)
                  refine Kd.S_append_step k40 (w0 := w) w.heap.size (by rfl) (.tmp 23) (.tmp 30) 33 40 (.agg #[(.int .i64 0), (.slice none 0 0)]) 32 rfl Try.underlying33 info40 rfl (by decide) (by omega) (.slice Ao16 x6_1.length co16) x6_1 (⟨(rd_T40 l1 x14_1).f0, y394⟩ : S40) [.int .i64 ((rd_T40 l1 x14_1).f0), .slice Ao20 y394.length co20] (fun k_ => k_ ≠ gb393) (fun k_ => some k_ = (.slice Ao20 y394.length co20 : Value).ownBlock) rfl rfl ?aP (fun k_ hk_ => ((Kd.R_mono (ok' := fun k_ => ((fun k_ => k_ ≠ gb393)) k_ ∧ some k_ ≠ (.slice Ao16 x6_1.length co16 : Value).ownBlock) (Kd.R_types (Kd.R_apart' (HO396.out) (Kd.S_typed HO_6.out) (by decide)) BK393.out (by decide)) (fun k_ hk => ⟨hk.2, hk.1.2⟩))).1 k_ hk_.symm) ?aF ?aO ?aB ?aS ?aL ?_
                  (case aP => exact k40_mkM _ _ _ (⟨(rd_T40 l1 x14_1).f0, y394⟩ : S40) (Kd.R_mono (Kd.R_tight rfl (Kd.R_mono (ok' := fun k_ => ((fun k_ => k_ ≠ gb393)) k_ ∧ some k_ ≠ (.slice Ao16 x6_1.length co16 : Value).ownBlock) (Kd.R_types (Kd.R_apart' (HO396.out) (Kd.S_typed HO_6.out) (by decide)) BK393.out (by decide)) (fun k_ hk => ⟨hk.2, hk.1.2⟩))) (fun _ h_ => h_)))
                  (case aB => exact (by repeat (first | (with_reducible first | exact HB.out | apply below_alloc | apply pw_below_drewN | apply below_drew1 | refine below_set ?_ GE393.out) | exact HB.out)))
                  (case aF => exact (fun k_ hk => Kd.freshB (g := gb393) (o := .cells #[.int .i64 ((rd_T40 l1 x14_1).f0), .slice A392_1 ((rd_T40 l1 x14_1).f1).length c392_1] 40 (0, 0)) (by (with_reducible repeat (first | refine blk_drewN ?_ _ | refine blk_drew ?_ | refine blk_alloc ?_ _)); exact BK393.out) k_ hk))
                  (case aO => exact (by (with_reducible repeat (first | apply Kd.S_alloc | apply Kd.S_drewN | apply Kd.S_drew)); exact Kd.S_mono HO_6.out (fun k_ hk => ⟨hk.1, fun e_ => hk.2 e_⟩)))
                  (case aS => exact (below_size (by repeat (first | (with_reducible first | exact HB.out | apply below_alloc | apply pw_below_drewN | apply below_drew1 | refine below_set ?_ GE393.out) | exact HB.out))))
                  (case aL => have := LMc13.out; omega)
                  intro v398 w21 ho hb hg hat
                  rw [← Ny397.out] at ho
                  have n0_ := Aside0.mk (blk_grown (g := gb393) (o := .cells #[.int .i64 ((rd_T40 l1 x14_1).f0), .slice A392_1 ((rd_T40 l1 x14_1).f1).length c392_1] 40 (0, 0)) (by (with_reducible repeat (first | refine blk_drewN ?_ _ | refine blk_drew ?_ | refine blk_alloc ?_ _)); exact BK393.out) hg (Kd.S_away HO_6.out (fun _ hk => hk.1)))
                  have n1_ := Aside0.mk (hb)
                  have n2_ := Aside0.mk (ho)
                  clear BK393
                  clear HB
                  clear HO_6
                  clear HO396
                  have BK393 := n0_
                  have HB := n1_
                  have HO399 := n2_
                  clear n0_ n1_ n2_
                  clear ho hb hg hat
                  refine hK.out _ _ ⟨(blk_cell BK393.out 0).trans rfl, (blk_cell BK393.out 1).trans rfl⟩ (fun hHeld => ?_)
                  clear hK K
                  refine norm_ (a' := ?_) ?_ ?_
                  rotate_left
                  · show Act.put _ (some 31) _ = _
                    simp only [Act.put, List.setIfInBounds_toArray, List.set_cons_zero, List.set_cons_succ, i64_w, i32_w]
                    rfl
                  refine pure_ (i := 9) (N := some 6) (v := ?_) (a' := ?_) #[true, true, true, true, true, true, true, true, true, true] rfl rfl (any_of HT_.out (by kernel_rfl)) (fun _ _ _ h => h) (Or.inl ⟨by rfl, ?_⟩) ?_ ?_
                  rotate_left
                  · intro w'
                    go_simp
                    with_reducible rfl
                  rotate_left
                  · simp only [Act.put, List.setIfInBounds_toArray, List.set_cons_zero, List.set_cons_succ, i64_w, i32_w]
                    rfl
                  refine done_ (done_of HT_.out (by kernel_rfl)) ?_
                  try go_wp2
                  go_roundg k1
                  case measure => have := HK1.out; omega
                  case rel => exact ⟨(y397), (x7_1), (wrap64 (x14_1 + 1)), (by first | rfl | (simp; done) | (simp [*]; done)), (by first | rfl | (simp; done) | (simp [*]; done)), H', ⟨by have := HK1.out; omega⟩, ⟨by (with_reducible repeat (first | apply Kd.S_alloc | apply Kd.S_drewN | apply Kd.S_drew)); exact Kd.S_mono HO399.out (fun _ hk => trivial)⟩, ⟨by repeat (first | (with_reducible first | exact HB.out | apply below_alloc | apply pw_below_drewN | apply below_drew1 | refine below_set ?_ GE393.out) | exact HB.out)⟩⟩
                · rw [if_neg c13] at H
                  exact absurd H (by simp)
              · rw [if_neg c12] at H
                exact absurd H (by simp)
          · rw [if_neg c7] at H
            exact absurd H (by simp)
        · rw [if_neg c6] at H
          exact absurd H (by simp)
      · rw [if_neg c5] at H
        have c5b0 : decide (x14_1 < (l1.length : Int)) = false := decide_eq_false c5
        clear c5
        simp only [Option.some.injEq, Prod.mk.injEq] at H
        obtain ⟨rfl, rfl⟩ := H
        go_wp2
        go_ret2
        exact ⟨_, by first | rfl | (simp [errW_none, errW_some] <;> rfl) | (simp [*, errW_none, errW_some] <;> rfl), by (with_reducible repeat (first | apply Kd.S_alloc | apply Kd.S_drewN | apply Kd.S_drew)); exact HO_6.out, by repeat (first | (with_reducible first | exact HB.out | apply below_alloc | apply pw_below_drewN | apply below_drew1) | exact HB.out)⟩

/-! ### thrumref21_is: function 67 -/
def thrumref21_is.f (l0 : List (S40)) (a1 : Int) : Option (Bool) := if a1 ≥ 0 then (some (decide (a1 < (l0.length : Int)))) else (some false)
set_option maxHeartbeats 8000000 in
set_option maxRecDepth 100000 in
theorem thrumref21_is.calls (A0 : Option Addr) (c0 : Nat) (l0 : List (S40)) (a1 : Int) (r : Bool) (w : World) (hr0 : Kd.C k40 w A0 l0.length l0) (hc0 : l0.length ≤ c0) (h : thrumref21_is.f l0 a1 = some r) :
    Calls Try.prog 67 #[.slice A0 l0.length c0, .int .i64 a1] w fun e w' => e = .returned (.bool r) ∧ Drawn0 w w' := by
  have HR0 := Aside0.mk hr0
  have HC0 := Aside0.mk hc0
  clear hr0 hc0
  have H : (if a1 ≥ 0 then (some (decide (a1 < (l0.length : Int)))) else (some false)) = some r := h
  clear h
  by_cases c3 : a1 ≥ 0
  · rw [if_pos c3] at H
    have c3b0 : decide (0 ≤ a1) = true := decide_eq_true c3
    clear c3
    obtain rfl := Option.some.inj H
    go_enter Try.func67, Try.ntmps67
    go_wp2
    go_ret
    exact ⟨by first | rfl | (simp; done) | (simp [*]; done), by repeat (first | exact Drawn0.refl _ | apply Drawn0.step)⟩
  · rw [if_neg c3] at H
    have c3b0 : decide (0 ≤ a1) = false := decide_eq_false c3
    clear c3
    obtain rfl := Option.some.inj H
    go_enter Try.func67, Try.ntmps67
    go_wp2
    go_ret
    exact ⟨by first | rfl | (simp; done) | (simp [*]; done), by repeat (first | exact Drawn0.refl _ | apply Drawn0.step)⟩

/-! ### thrumref21_Give: function 45 -/
def thrumref21_Give.f (k : Nat) (l0 : List (S40)) (a1 : Int) : Option (Int × List Int × (List (S40)) × Int) := (thrumref21_Copy.f k l0).bind fun t401 => ((thrumref21_is.f l0 a1).bind fun t404 => (if t404 = true then (if 0 ≤ a1 then (if a1 < (t401.length : Int) then (if t401.length < 2199023255552 then (some ((rd_T40 t401 a1).f0, (rd_T40 t401 a1).f1, t401.eraseIdx (a1 : Int).toNat, 0)) else (none)) else (none)) else (none)) else (some (0, ([] : List Int), t401, 1))))
theorem thrumref21_Give.mono : ∀ a0 a1 k, LeO (thrumref21_Give.f k a0 a1) (thrumref21_Give.f (k + 1) a0 a1) := by
  intro a0 a1 k
  unfold thrumref21_Give.f
  repeat' first
      | (with_reducible exact thrumref21_Copy.mono _ _)
      | (with_reducible exact LeO.refl _)
      | (with_reducible exact LeO.none _)
      | (with_reducible refine LeO.ite ?_ ?_)
      | (with_reducible refine LeO.bind ?_ (fun _ => ?_))
      | exact thrumref21_Copy.mono _ _
      | exact LeO.none _
      | refine LeO.ite ?_ ?_
      | refine LeO.bind ?_ (fun _ => ?_)
set_option maxHeartbeats 8000000 in
set_option maxRecDepth 100000 in
theorem thrumref21_Give.calls (k : Nat) (A0 : Option Addr) (c0 : Nat) (l0 : List (S40)) (a1 : Int) (r1 : Int) (r2 : List Int) (r3 : List (S40)) (r4 : Int) (w : World) (hr0 : Kd.C k40 w A0 l0.length l0) (hc0 : l0.length ≤ c0) (h : thrumref21_Give.f k l0 a1 = some (r1, r2, r3, r4)) :
    Calls Try.prog 45 #[.slice A0 l0.length c0, .int .i64 a1] w fun e w' => ∃ v1_ v2_ : Value, e = .returned (.tuple #[.agg #[.int .i64 r1, v1_], v2_, .int .i64 r4]) ∧ Kd.V (Kd.int .u8) 5 w' w.heap.size (fun k_ => (w.heap.size ≤ k_) ∧ some k_ ≠ (v2_ : Value).ownBlock) v1_ r2 ∧ NV k40 40 w' w.heap.size (fun k_ => (w.heap.size ≤ k_)) v2_ r3 ∧ Below w.heap.size w w' := by
  have hu40 := Try.underlying40
  have HR0 := Aside0.mk hr0
  have HC0 := Aside0.mk hc0
  clear hr0 hc0
  have HB := Aside0.mk (Below.refl w.heap.size w)
  have H : ((thrumref21_Copy.f k l0).bind fun t401 => ((thrumref21_is.f l0 a1).bind fun t404 => (if t404 = true then (if 0 ≤ a1 then (if a1 < (t401.length : Int) then (if t401.length < 2199023255552 then (some ((rd_T40 t401 a1).f0, (rd_T40 t401 a1).f1, t401.eraseIdx (a1 : Int).toNat, 0)) else (none)) else (none)) else (none)) else (some (0, ([] : List Int), t401, 1))))) = some (r1, r2, r3, r4) := h
  clear h
  replace H := Option.bind_eq_some_iff.mp H
  obtain ⟨t401, A30, H⟩ := H
  replace H : ((thrumref21_is.f l0 a1).bind fun t404 => (if t404 = true then (if 0 ≤ a1 then (if a1 < (t401.length : Int) then (if t401.length < 2199023255552 then (some ((rd_T40 t401 a1).f0, (rd_T40 t401 a1).f1, t401.eraseIdx (a1 : Int).toNat, 0)) else (none)) else (none)) else (none)) else (some (0, ([] : List Int), t401, 1)))) = some (r1, r2, r3, r4) := H
  have A3 := Aside0.mk A30
  clear A30
  replace H := Option.bind_eq_some_iff.mp H
  obtain ⟨t404, A40, H⟩ := H
  replace H : (if t404 = true then (if 0 ≤ a1 then (if a1 < (t401.length : Int) then (if t401.length < 2199023255552 then (some ((rd_T40 t401 a1).f0, (rd_T40 t401 a1).f1, t401.eraseIdx (a1 : Int).toNat, 0)) else (none)) else (none)) else (none)) else (some (0, ([] : List Int), t401, 1))) = some (r1, r2, r3, r4) := H
  have A4 := Aside0.mk A40
  clear A40
  by_cases c5 : t404 = true
  · subst c5
    have H1 : (if 0 ≤ a1 then (if a1 < (t401.length : Int) then (if t401.length < 2199023255552 then (some ((rd_T40 t401 a1).f0, (rd_T40 t401 a1).f1, t401.eraseIdx (a1 : Int).toNat, 0)) else (none)) else (none)) else (none)) = some (r1, r2, r3, r4) := by first | (rw [if_pos rfl] at H; exact H) | (rw [if_pos True.intro] at H; exact H)
    clear H
    have H := H1
    clear H1
    by_cases c6 : 0 ≤ a1
    · rw [if_pos c6] at H
      have c6b0 : decide (0 ≤ a1) = true := decide_eq_true c6
      clear c6
      by_cases c7 : a1 < (t401.length : Int)
      · rw [if_pos c7] at H
        have c7b0 : decide (a1 < (t401.length : Int)) = true := decide_eq_true c7
        have HK0 := Aside0.mk (show a1.toNat < t401.length by have := of_decide_eq_true c6b0; omega)
        have HA0 := Aside0.mk (show ((a1.toNat : Nat) : Int) = a1 by have := of_decide_eq_true c6b0; omega)
        clear c7
        by_cases c8 : t401.length < 2199023255552
        · rw [if_pos c8] at H
          have HLM := Aside0.mk c8
          clear c8
          simp only [Option.some.injEq, Prod.mk.injEq] at H
          obtain ⟨rfl, rfl, rfl, rfl⟩ := H
          go_enter Try.func45, Try.ntmps45
          try go_wp2_with (first | ((with_reducible refine gate_dst (N := 4) rfl ?_); refine box_event ?hg (N := 4) ?hd (cs := #[.int .i64 0, .slice none 0 0]) (t := 40) ?hr ?_; (case hd => rfl); (case hg => rfl); (case hr => first | (go_simp; done) | (go_simp; rfl)); intro gb400 hg w16 hbox hb; have n0_ := Aside0.mk (below_step (by repeat (first | (with_reducible first | exact HB.out | apply below_alloc | apply pw_below_drewN | apply below_drew1) | exact HB.out)) hb); have n1_ := Aside0.mk (hbox); have n2_ := Aside0.mk ((by rw [hg]; exact (below_size (by repeat (first | (with_reducible first | exact HB.out | apply below_alloc | apply pw_below_drewN | apply below_drew1) | exact HB.out))) : w.heap.size ≤ gb400)); have n3_ := Aside0.mk ((by rw [hg]; exact (below_size (by repeat (first | (with_reducible first | exact HB.out | apply below_alloc | apply pw_below_drewN | apply below_drew1) | exact HB.out))) : w.heap.size ≤ gb400)); clear HB; have HB := n0_; have BK400 := n1_; have GW400 := n2_; have GE400 := n3_; clear n0_ n1_ n2_ n3_; clear hb hbox hg) | ((with_reducible refine gate_callee (f := 43) rfl ?_); refine goesL_ (some 9) rfl rfl Try.func43 (by kernel_rfl) rfl #[.slice A0 l0.length c0] rfl (by (try simp only [List.map_toArray, List.map_cons, List.map_nil]); first | done | rfl | (simp only [List.length_drop, List.length_take]; rfl)) ?_; (with_reducible refine (thrumref21_Copy.calls k _ _ l0 t401 _ ?side1 ?side2 A3.out).mono ?_); (case side1 => repeat (first | exact (Kd.C_below HR0.out HB.out) | (with_reducible refine Kd.C_alloc ?_ _) | (with_reducible refine Kd.C_drewN ?_ _) | (with_reducible refine Kd.C_drew ?_))); (case side2 => exact HC0.out); rintro e w17 ⟨v402, rfl, ho0, hb⟩; refine ⟨_, rfl, ?_⟩; have n0_ := Aside0.mk (Kd.N_lower (Kd.N_mono (ok' := fun k_ => (w.heap.size ≤ k_) ∧ k_ ≠ gb400) (Kd.S_N (Kd.S_bound ho0)) (fun k_ hk_ => ⟨(Nat.le_trans (below_size (by repeat (first | (with_reducible first | exact HB.out | apply below_alloc | apply pw_below_drewN | apply below_drew1 | refine below_set ?_ GE400.out) | exact HB.out))) hk_.2.1), (Kd.freshB (g := gb400) (o := .cells #[.int .i64 0, .slice none 0 0] 40 (0, 0)) (by (with_reducible repeat (first | refine blk_drewN ?_ _ | refine blk_drew ?_ | refine blk_alloc ?_ _)); exact BK400.out) k_ hk_.2.1)⟩)) (below_size (by repeat (first | (with_reducible first | exact HB.out | apply below_alloc | apply pw_below_drewN | apply below_drew1 | refine below_set ?_ GE400.out) | exact HB.out)))); have n1_ := Aside0.mk (blk_below (g := gb400) (o := .cells #[.int .i64 0, .slice none 0 0] 40 (0, 0)) (by (with_reducible repeat (first | refine blk_drewN ?_ _ | refine blk_drew ?_ | refine blk_alloc ?_ _)); exact BK400.out) hb); have n2_ := Aside0.mk (below_step (by repeat (first | (with_reducible first | exact HB.out | apply below_alloc | apply pw_below_drewN | apply below_drew1 | refine below_set ?_ GE400.out) | exact HB.out)) hb); clear BK400; clear HB; have HO403 := n0_; have BK400 := n1_; have HB := n2_; clear n0_ n1_ n2_; (try clear hb); (try clear hb2); (try clear hk); (try clear hi); (try clear ho0)) | ((with_reducible refine gate_callee (f := 67) rfl ?_); refine goesL_ (some 12) rfl rfl Try.func67 (by kernel_rfl) rfl #[.slice A0 l0.length c0, .int .i64 a1] rfl (by (try simp only [List.map_toArray, List.map_cons, List.map_nil]); first | done | rfl | (simp only [List.length_drop, List.length_take]; rfl)) ?_; (with_reducible refine (thrumref21_is.calls _ _ l0 a1 true _ ?side1 ?side2 A4.out).mono ?_); (case side1 => repeat (first | exact (Kd.C_below HR0.out HB.out) | (with_reducible refine Kd.C_alloc ?_ _) | (with_reducible refine Kd.C_drewN ?_ _) | (with_reducible refine Kd.C_drew ?_))); (case side2 => exact HC0.out); rintro e w' ⟨rfl, ⟨nd, rfl⟩⟩; refine ⟨_, rfl, ?_⟩; (try (rw [drewN_self w17]; generalize hq_ : World.drewN w17 _ = w17; have n0_ : Aside0 (Kd.N k40 40 w17 w.heap.size (fun k_ => (w.heap.size ≤ k_) ∧ k_ ≠ gb400) v402 t401) := ⟨by rw [← hq_]; exact (by (with_reducible repeat (first | apply Kd.N_alloc | apply Kd.N_drewN | apply Kd.N_drew)); exact HO403.out)⟩; have n1_ : Aside0 (w17.heap[gb400]? = some (.cells #[.int .i64 0, .slice none 0 0] 40 (0, 0))) := ⟨by rw [← hq_]; exact (by (with_reducible repeat (first | refine blk_drewN ?_ _ | refine blk_drew ?_ | refine blk_alloc ?_ _)); exact BK400.out)⟩; have n2_ : Aside0 (Below w.heap.size w w17) := ⟨by rw [← hq_]; exact (by repeat (first | (with_reducible first | exact HB.out | apply below_alloc | apply pw_below_drewN | apply below_drew1 | refine below_set ?_ GE400.out) | exact HB.out))⟩; clear HO403 BK400 HB hq_; have HO403 := n0_; have BK400 := n1_; have HB := n2_; clear n0_ n1_ n2_)); obtain ⟨Ao18, co18, eo18⟩ := Kd.N_slice HO403.out; subst eo18; have p405 : 0 ≤ (a1 : Int) := of_decide_eq_true (by first | (with_reducible assumption) | assumption); have q405 : a1 < (t401.length : Int) := of_decide_eq_true (by first | (with_reducible assumption) | assumption); obtain ⟨ad405, A405_1, c405_1, e405, hx405_0, hx405_1, hl405_1, hi405_1⟩ := at_T40 (Kd.N_reads' HO403.out).2.2 a1 p405 q405; cases e405; obtain ⟨ce405, hce405, hMe405, hcc405⟩ := Kd.N_get HO403.out z40 a1 p405 (by first | exact q405 | exact of_decide_eq_true (by first | (with_reducible assumption) | assumption) | (have e_ := (Kd.N_reads' HO403.out).1; omega)); obtain ⟨ua405_1, uc405_1, rfl, ul405_1, ge405_1⟩ := k40_openF hMe405; have hv405_1 := hcc405 1 _ rfl; rw [add_field _ _ 1 (by omega)] at hv405_1; replace hv405_1 := Option.some.inj (hv405_1.symm.trans hx405_1); injection hv405_1 with hva_ hvn_ hvc_; rw [hva_] at ge405_1; rw [hvc_] at ul405_1; have HL405_1 := Aside0.mk (show Kd.V (Kd.int .u8) 5 _ w.heap.size _ _ ((rd_T40 t401 a1).f1) from Kd.V_mk ul405_1 ge405_1); clear hva_ hvn_ hvc_ ge405_1 ul405_1; clear hcc405 hce405; have HR405_1 := Aside0.mk hi405_1; have HC405_1 := Aside0.mk hl405_1; clear hi405_1 hl405_1; replace p405 := eq_true p405; (try (have p405s := p405; rw [List.length_drop] at p405s)); (try (have p405t := p405; rw [List.length_take] at p405t)); replace q405 := eq_true q405; (try (have q405s := q405; rw [List.length_drop] at q405s)); (try (have q405t := q405; rw [List.length_take] at q405t)); have HOg := Aside0.mk HO403.out; have HLg := Aside0.mk HL405_1.out; clear HO403 HL405_1 HR405_1 HC405_1))
          obtain ⟨go, hgo⟩ := N_head HOg.out
          subst hgo
          have p1 := eq_true (of_decide_eq_true c6b0)
          have q1 := eq_true (of_decide_eq_true c7b0)
          have hw_ : wrap64 (a1 + 1) = ((a1.toNat : Nat) : Int) + 1 := (by have h1_ := HK0.out; have h2_ := HLM.out; have h3_ := HA0.out; unfold wrap64; omega)
          have hroom_ : t401.length ≤ co18 := (Kd.N_reads' HOg.out).2.1
          have hcutA : ∀ W : World, (Instr.slice 33 (.slice (some ⟨go, 0, none⟩) t401.length co18) none (some (.int .i64 a1)) (some (.int .i64 a1))).run Try.prog W = .ok (.slice (some ⟨go, 0, none⟩) a1.toNat a1.toNat) W := fun W => by
            have h_ := cut_max go t401.length co18 a1.toNat (Nat.le_trans (Nat.le_of_lt HK0.out) hroom_) W
            rwa [HA0.out] at h_
          obtain ⟨VB, hVB⟩ : ∃ VB : Option Addr, VB = (if co18 = a1.toNat + 1 then some ⟨go, 0, none⟩ else (some ⟨go, 0, none⟩ : Option Addr).map (·.add ((a1.toNat + 1) * 2))) := ⟨_, rfl⟩
          have hcutB : ∀ W : World, (Instr.slice 33 (.slice (some ⟨go, 0, none⟩) t401.length co18) (some (.int .i64 (wrap64 (a1 + 1)))) none none).run Try.prog W = .ok (.slice VB (t401.length - (a1.toNat + 1)) (co18 - (a1.toNat + 1))) W := fun W => by
            have h_ := cut_rest go t401.length co18 a1.toNat HK0.out W
            rw [← hw_, ← hVB] at h_
            exact h_
          have HVB := Aside0.mk hVB
          clear hVB hw_ hroom_
          have HO := Aside0.mk (Kd.N_drew HOg.out)
          have HL := Aside0.mk (Kd.V_drew HLg.out)
          have BK := Aside0.mk (blk_drew BK400.out)
          have HB0 := Aside0.mk (below_drew1 HB.out)
          clear HOg HLg BK400 HB
          have HB := HB0
          clear HB0
          have hy_0 : w17.drew.cell? ⟨go, a1.toNat * 2, none⟩ = some (.int .i64 ((rd_T40 t401 a1).f0)) := by first | exact hx405_0 | (have h_ := hx405_0; rw [add_at, Nat.zero_add] at h_; exact h_)
          have hy_1 : w17.drew.cell? ⟨go, a1.toNat * 2 + 1, none⟩ = some (.slice A405_1 ((rd_T40 t401 a1).f1).length c405_1) := by first | exact hx405_1 | (have h_ := hx405_1; rw [add_at, Nat.zero_add] at h_; exact h_)
          clear hx405_0 hx405_1
          generalize hw18 : w17.drew = w18 at HO HL BK HB hy_0 hy_1
          refine start_ (n := 16) (S := fun w' => w'.cell? ⟨go, a1.toNat * 2, none⟩ = some (.int .i64 ((rd_T40 t401 a1).f0)) ∧ w'.cell? ⟨go, a1.toNat * 2 + 1, none⟩ = some (.slice A405_1 ((rd_T40 t401 a1).f1).length c405_1)) (ds := [13]) #[false, false, false, false, false, false, false, false, false, false, false, false, false, false, false, false] (by kernel_rfl) rfl rfl (by rw [hw18]; exact ⟨hy_0, hy_1⟩) (fun hHeld => ?_)
          rw [hw18] at hHeld ⊢
          clear hw18
          refine pure_ (i := 0) (N := some 16) (v := ?_) (a' := ?_) #[true, false, false, false, false, false, false, false, false, false, false, false, false, false, false, false] rfl rfl (by kernel_rfl) (fun _ _ _ h => h) (Or.inl ⟨by rfl, ?_⟩) ?_ ?_
          rotate_left
          · intro w'
            go_simp
            with_reducible rfl
          rotate_left
          · simp only [Act.put, List.setIfInBounds_toArray, List.set_cons_zero, List.set_cons_succ, i64_w, i32_w]
            rfl
          refine pure_ (i := 1) (N := some 17) (v := ?_) (a' := ?_) #[true, true, false, false, false, false, false, false, false, false, false, false, false, false, false, false] rfl rfl (by kernel_rfl) (fun _ _ _ h => h) (Or.inl ⟨by rfl, ?_⟩) ?_ ?_
          rotate_left
          · intro w'
            go_simp
            with_reducible rfl
          rotate_left
          · simp only [Act.put, List.setIfInBounds_toArray, List.set_cons_zero, List.set_cons_succ, i64_w, i32_w]
            rfl
          refine pure_ (i := 2) (N := some 18) (v := ?_) (a' := ?_) #[true, true, true, false, false, false, false, false, false, false, false, false, false, false, false, false] rfl rfl (by kernel_rfl) (fun _ _ _ h => h) (Or.inl ⟨by rfl, ?_⟩) ?_ ?_
          rotate_left
          · intro w'
            go_simp
            with_reducible rfl
          rotate_left
          · simp only [Act.put, List.setIfInBounds_toArray, List.set_cons_zero, List.set_cons_succ, i64_w, i32_w]
            rfl
          refine pure_ (i := 4) (N := some 20) (v := ?_) (a' := ?_) #[true, true, true, false, true, false, false, false, false, false, false, false, false, false, false, false] rfl rfl (by kernel_rfl) (fun _ _ _ h => h) (Or.inl ⟨by rfl, ?_⟩) ?_ ?_
          rotate_left
          · intro w'
            go_simp
            with_reducible rfl
          rotate_left
          · simp only [Act.put, List.setIfInBounds_toArray, List.set_cons_zero, List.set_cons_succ, i64_w, i32_w]
            rfl
          refine pure_ (i := 5) (N := some 21) (v := ?_) (a' := ?_) #[true, true, true, false, true, true, false, false, false, false, false, false, false, false, false, false] rfl rfl (by kernel_rfl) (fun _ _ _ h => h) (Or.inl ⟨by rfl, ?_⟩) ?_ ?_
          rotate_left
          · intro w'
            go_simp
            with_reducible rfl
          rotate_left
          · simp only [Act.put, List.setIfInBounds_toArray, List.set_cons_zero, List.set_cons_succ, i64_w, i32_w]
            rfl
          refine pure_ (i := 6) (N := some 22) (v := ?_) (a' := ?_) #[true, true, true, false, true, true, true, false, false, false, false, false, false, false, false, false] rfl rfl (by kernel_rfl) (fun _ _ _ h => h) (Or.inl ⟨by rfl, ?_⟩) ?_ ?_
          rotate_left
          · intro w'
            go_simp
            with_reducible rfl
          rotate_left
          · simp only [Act.put, List.setIfInBounds_toArray, List.set_cons_zero, List.set_cons_succ, i64_w, i32_w]
            rfl
          refine pure_ (i := 7) (N := some 23) (v := ?_) (a' := ?_) #[true, true, true, false, true, true, true, true, false, false, false, false, false, false, false, false] rfl rfl (by kernel_rfl) (fun _ _ _ h => h) (Or.inl ⟨by rfl, ?_⟩) ?_ ?_
          rotate_left
          · intro w'
            go_simp
            with_reducible rfl
          rotate_left
          · simp only [Act.put, List.setIfInBounds_toArray, List.set_cons_zero, List.set_cons_succ, i64_w, i32_w]
            rfl
          refine pure_ (i := 8) (N := some 24) (v := ?_) (a' := ?_) #[true, true, true, false, true, true, true, true, true, false, false, false, false, false, false, false] rfl rfl (by kernel_rfl) (fun _ _ _ h => h) (Or.inl ⟨by rfl, ?_⟩) ?_ ?_
          rotate_left
          · intro w'
            go_simp
            with_reducible rfl
          rotate_left
          · simp only [Act.put, List.setIfInBounds_toArray, List.set_cons_zero, List.set_cons_succ, i64_w, i32_w]
            rfl
          refine pure_ (i := 9) (N := some 25) (v := ?_) (a' := ?_) #[true, true, true, false, true, true, true, true, true, true, false, false, false, false, false, false] rfl rfl (by kernel_rfl) (fun _ _ _ h => h) (Or.inl ⟨by rfl, ?_⟩) ?_ ?_
          rotate_left
          · intro w'
            go_simp
            with_reducible rfl
          rotate_left
          · simp only [Act.put, List.setIfInBounds_toArray, List.set_cons_zero, List.set_cons_succ, i64_w, i32_w]
            rfl
          refine pure_ (i := 10) (N := some 26) (v := ?_) (a' := ?_) #[true, true, true, false, true, true, true, true, true, true, true, false, false, false, false, false] rfl rfl (by kernel_rfl) (fun _ _ _ h => h) (Or.inl ⟨by rfl, ?_⟩) ?_ ?_
          rotate_left
          · intro w'
            go_simp
            with_reducible rfl
          rotate_left
          · simp only [Act.put, List.setIfInBounds_toArray, List.set_cons_zero, List.set_cons_succ, i64_w, i32_w]
            rfl
          refine pure_ (i := 11) (N := some 27) (v := ?_) (a' := ?_) #[true, true, true, false, true, true, true, true, true, true, true, true, false, false, false, false] rfl rfl (by kernel_rfl) (fun _ _ _ h => h) (Or.inl ⟨by rfl, ?_⟩) ?_ ?_
          rotate_left
          · intro w'
            go_simp
            with_reducible rfl
          rotate_left
          · simp only [Act.put, List.setIfInBounds_toArray, List.set_cons_zero, List.set_cons_succ, i64_w, i32_w]
            rfl
          refine take_ (i := 3) (N := some 19) (v := ?_) (a' := ?_) #[true, true, true, true, true, true, true, true, true, true, true, true, false, false, false, false] rfl rfl (by kernel_rfl) (fun _ _ _ h => h) (Or.inl ⟨by rfl, ?_⟩) hHeld ?_ ?_
          rotate_left
          · rintro w' ⟨s0, s1⟩
            go_simp
            with_reducible rfl
          rotate_left
          · simp only [Act.put, List.setIfInBounds_toArray, List.set_cons_zero, List.set_cons_succ, i64_w, i32_w]
            rfl
          refine one_ (i := 12) (N := some 28) #[true, true, true, true, true, true, true, true, true, true, true, true, true, false, false, false] rfl rfl (by kernel_rfl) (by decide) (fun K hK => ?_)
          obtain ⟨vq, w19, hrun, hNV, hBq, hat_⟩ := give_append (w := w18) a1.toNat HVB.out HO.out HK0.out HB.out.size (fun k_ hk_ => (⟨Nat.le_trans HB.out.size hk_, fun he_ => by have h_ := blk_lt BK.out; omega⟩ : w.heap.size ≤ k_ ∧ k_ ≠ gb400)) HLM.out
          have HNQ := Aside0.mk hNV
          have HBQ := Aside0.mk hBq
          have hgf_ : w.heap.size ≤ w18.heap.size := HB.out.size
          have hce_ : w19.heap[go]? = w18.heap[go]? := hBq.block go (Kd.N_lt HO.out go rfl)
          have HLQ := Aside0.mk (Kd.V_mono (ok' := fun k_ => (w.heap.size ≤ k_ ∧ some k_ ≠ vq.ownBlock) ∧ k_ ≠ gb400) (Kd.V_below (Kd.V_bound HL.out) hBq) (fun k_ hk_ => ⟨⟨hk_.1.1.1, fun he_ => (hat_ k_ he_.symm).elim (fun e_ => hk_.1.2 (by rw [e_]; rfl)) (fun e_ => by have := hk_.2; omega)⟩, hk_.1.1.2⟩))
          have BKQ := Aside0.mk (blk_below BK.out hBq)
          have HBN := Aside0.mk (below_step HB.out hBq)
          have hz_0 : w19.cell? ⟨go, a1.toNat * 2, none⟩ = some (.int .i64 ((rd_T40 t401 a1).f0)) := by rw [← hy_0]; simp only [World.cell?, hce_]
          have hz_1 : w19.cell? ⟨go, a1.toNat * 2 + 1, none⟩ = some (.slice A405_1 ((rd_T40 t401 a1).f1).length c405_1) := by rw [← hy_1]; simp only [World.cell?, hce_]
          clear hNV hBq hat_ hgf_ hce_ hy_0 hy_1
          refine append_ (v := .slice (some ⟨go, 0, none⟩) a1.toNat a1.toNat) (u := .slice VB (t401.length - (a1.toNat + 1)) (co18 - (a1.toNat + 1))) (by rfl) rfl rfl rfl rfl hrun ?_
          refine hK.out _ _ ⟨hz_0, hz_1⟩ (fun hHeld => ?_)
          clear hK K hrun HO HL BK HB
          refine norm_ (a' := ?_) ?_ ?_
          rotate_left
          · simp only [Act.put, List.setIfInBounds_toArray, List.set_cons_zero, List.set_cons_succ, i64_w, i32_w]
            rfl
          have hs0 : w19.cell? ⟨gb400, 0, none⟩ = some (.int .i64 0) := (blk_cell BKQ.out 0).trans rfl
          have hs1 : w19.cell? ⟨gb400, 1, none⟩ = some (.slice none 0 0) := (blk_cell BKQ.out 1).trans rfl
          have hfs0 := blk_frozen BKQ.out 0
          have hfs1 := blk_frozen BKQ.out 1
          refine last_ (i := 13) (N := none) #[true, true, true, true, true, true, true, true, true, true, true, true, true, true, false, false] rfl rfl (by kernel_rfl) (by decide) (fun K hK => ?_)
          refine skip_ (w1 := ?_) (by rfl) rfl ?_ ?_
          rotate_left
          · go_simp
            rfl
          refine hK.out _ _ ?_
          clear hK K
          refine pure_ (i := 14) (N := some 5) (v := ?_) (a' := ?_) #[true, true, true, true, true, true, true, true, true, true, true, true, true, true, true, false] rfl rfl (by kernel_rfl) (fun _ _ _ h => h) (Or.inl ⟨by rfl, ?_⟩) ?_ ?_
          rotate_left
          · intro w'
            go_simp
            with_reducible rfl
          rotate_left
          · simp only [Act.put, List.setIfInBounds_toArray, List.set_cons_zero, List.set_cons_succ, i64_w, i32_w]
            rfl
          refine pure_ (i := 15) (N := some 6) (v := ?_) (a' := ?_) #[true, true, true, true, true, true, true, true, true, true, true, true, true, true, true, true] rfl rfl (by kernel_rfl) (fun _ _ _ h => h) (Or.inl ⟨by rfl, ?_⟩) ?_ ?_
          rotate_left
          · intro w'
            go_simp
            with_reducible rfl
          rotate_left
          · simp only [Act.put, List.setIfInBounds_toArray, List.set_cons_zero, List.set_cons_succ, i64_w, i32_w]
            rfl
          refine done_ (by kernel_rfl) ?_
          try go_wp2
          refine bodyPost_ret (results_ctt rfl _ _ gb400 40 #[.int .i64 ((rd_T40 t401 a1).f0), .slice A405_1 ((rd_T40 t401 a1).f1).length c405_1] (0, 0) _ rfl (by refine blk_put (cs := #[.int .i64 ((rd_T40 t401 a1).f0), .slice none 0 0]) ?_ 1 _ rfl; refine blk_put (cs := #[.int .i64 0, .slice none 0 0]) ?_ 0 _ rfl; exact BKQ.out) Try.underlying40 rfl (by kernel_rfl)) rfl ?_
          exact ⟨_, _, rfl, Kd.V_mono (Kd.V_far (p := ⟨gb400, 1, none⟩) (Kd.V_far (p := ⟨gb400, 0, none⟩) HLQ.out (fun _ hk => hk.2) (.int .i64 ((rd_T40 t401 a1).f0))) (fun _ hk => hk.2) (.slice A405_1 ((rd_T40 t401 a1).f1).length c405_1)) (fun _ hk => hk.1), NV_mono (NV_far (p := ⟨gb400, 1, none⟩) (NV_far (p := ⟨gb400, 0, none⟩) HNQ.out (fun _ hk => hk.2) (.int .i64 ((rd_T40 t401 a1).f0))) (fun _ hk => hk.2) (.slice A405_1 ((rd_T40 t401 a1).f1).length c405_1)) (fun _ hk => hk.1), by repeat (first | (with_reducible first | exact HBN.out | refine below_set ?_ GE400.out) | exact HBN.out)⟩
        · rw [if_neg c8] at H
          exact absurd H (by simp)
      · rw [if_neg c7] at H
        exact absurd H (by simp)
    · rw [if_neg c6] at H
      exact absurd H (by simp)
  · replace c5 := Bool.eq_false_iff.mpr c5
    subst c5
    have H1 : (some (0, ([] : List Int), t401, 1)) = some (r1, r2, r3, r4) := by rw [if_neg (show ¬ (false = true) by decide)] at H; exact H
    clear H
    have H := H1
    clear H1
    simp only [Option.some.injEq, Prod.mk.injEq] at H
    obtain ⟨rfl, rfl, rfl, rfl⟩ := H
    go_enter Try.func45, Try.ntmps45
    go_wp2_with (first | ((with_reducible refine gate_dst (N := 4) rfl ?_); refine box_event ?hg (N := 4) ?hd (cs := #[.int .i64 0, .slice none 0 0]) (t := 40) ?hr ?_; (case hd => rfl); (case hg => rfl); (case hr => first | (go_simp; done) | (go_simp; rfl)); intro gb400 hg w26 hbox hb; have n0_ := Aside0.mk (below_step (by repeat (first | (with_reducible first | exact HB.out | apply below_alloc | apply pw_below_drewN | apply below_drew1) | exact HB.out)) hb); have n1_ := Aside0.mk (hbox); have n2_ := Aside0.mk ((by rw [hg]; exact (below_size (by repeat (first | (with_reducible first | exact HB.out | apply below_alloc | apply pw_below_drewN | apply below_drew1) | exact HB.out))) : w.heap.size ≤ gb400)); have n3_ := Aside0.mk ((by rw [hg]; exact (below_size (by repeat (first | (with_reducible first | exact HB.out | apply below_alloc | apply pw_below_drewN | apply below_drew1) | exact HB.out))) : w.heap.size ≤ gb400)); clear HB; have HB := n0_; have BK400 := n1_; have GW400 := n2_; have GE400 := n3_; clear n0_ n1_ n2_ n3_; clear hb hbox hg) | ((with_reducible refine gate_callee (f := 43) rfl ?_); refine goesL_ (some 9) rfl rfl Try.func43 (by kernel_rfl) rfl #[.slice A0 l0.length c0] rfl (by (try simp only [List.map_toArray, List.map_cons, List.map_nil]); first | done | rfl | (simp only [List.length_drop, List.length_take]; rfl)) ?_; (with_reducible refine (thrumref21_Copy.calls k _ _ l0 t401 _ ?side1 ?side2 A3.out).mono ?_); (case side1 => repeat (first | exact (Kd.C_below HR0.out HB.out) | (with_reducible refine Kd.C_alloc ?_ _) | (with_reducible refine Kd.C_drewN ?_ _) | (with_reducible refine Kd.C_drew ?_))); (case side2 => exact HC0.out); rintro e w27 ⟨v402, rfl, ho0, hb⟩; refine ⟨_, rfl, ?_⟩; have n0_ := Aside0.mk (Kd.N_lower (Kd.N_mono (ok' := fun k_ => (w.heap.size ≤ k_) ∧ k_ ≠ gb400) (Kd.S_N (Kd.S_bound ho0)) (fun k_ hk_ => ⟨(Nat.le_trans (below_size (by repeat (first | (with_reducible first | exact HB.out | apply below_alloc | apply pw_below_drewN | apply below_drew1 | refine below_set ?_ GE400.out) | exact HB.out))) hk_.2.1), (Kd.freshB (g := gb400) (o := .cells #[.int .i64 0, .slice none 0 0] 40 (0, 0)) (by (with_reducible repeat (first | refine blk_drewN ?_ _ | refine blk_drew ?_ | refine blk_alloc ?_ _)); exact BK400.out) k_ hk_.2.1)⟩)) (below_size (by repeat (first | (with_reducible first | exact HB.out | apply below_alloc | apply pw_below_drewN | apply below_drew1 | refine below_set ?_ GE400.out) | exact HB.out)))); have n1_ := Aside0.mk (blk_below (g := gb400) (o := .cells #[.int .i64 0, .slice none 0 0] 40 (0, 0)) (by (with_reducible repeat (first | refine blk_drewN ?_ _ | refine blk_drew ?_ | refine blk_alloc ?_ _)); exact BK400.out) hb); have n2_ := Aside0.mk (below_step (by repeat (first | (with_reducible first | exact HB.out | apply below_alloc | apply pw_below_drewN | apply below_drew1 | refine below_set ?_ GE400.out) | exact HB.out)) hb); clear BK400; clear HB; have HO403 := n0_; have BK400 := n1_; have HB := n2_; clear n0_ n1_ n2_; (try clear hb); (try clear hb2); (try clear hk); (try clear hi); (try clear ho0)) | ((with_reducible refine gate_callee (f := 67) rfl ?_); refine goesL_ (some 12) rfl rfl Try.func67 (by kernel_rfl) rfl #[.slice A0 l0.length c0, .int .i64 a1] rfl (by (try simp only [List.map_toArray, List.map_cons, List.map_nil]); first | done | rfl | (simp only [List.length_drop, List.length_take]; rfl)) ?_; (with_reducible refine (thrumref21_is.calls _ _ l0 a1 false _ ?side1 ?side2 A4.out).mono ?_); (case side1 => repeat (first | exact (Kd.C_below HR0.out HB.out) | (with_reducible refine Kd.C_alloc ?_ _) | (with_reducible refine Kd.C_drewN ?_ _) | (with_reducible refine Kd.C_drew ?_))); (case side2 => exact HC0.out); rintro e w' ⟨rfl, ⟨nd, rfl⟩⟩; refine ⟨_, rfl, ?_⟩; (try (rw [drewN_self w27]; generalize hq_ : World.drewN w27 _ = w27; have n0_ : Aside0 (Kd.N k40 40 w27 w.heap.size (fun k_ => (w.heap.size ≤ k_) ∧ k_ ≠ gb400) v402 t401) := ⟨by rw [← hq_]; exact (by (with_reducible repeat (first | apply Kd.N_alloc | apply Kd.N_drewN | apply Kd.N_drew)); exact HO403.out)⟩; have n1_ : Aside0 (w27.heap[gb400]? = some (.cells #[.int .i64 0, .slice none 0 0] 40 (0, 0))) := ⟨by rw [← hq_]; exact (by (with_reducible repeat (first | refine blk_drewN ?_ _ | refine blk_drew ?_ | refine blk_alloc ?_ _)); exact BK400.out)⟩; have n2_ : Aside0 (Below w.heap.size w w27) := ⟨by rw [← hq_]; exact (by repeat (first | (with_reducible first | exact HB.out | apply below_alloc | apply pw_below_drewN | apply below_drew1 | refine below_set ?_ GE400.out) | exact HB.out))⟩; clear HO403 BK400 HB hq_; have HO403 := n0_; have BK400 := n1_; have HB := n2_; clear n0_ n1_ n2_)); have hcz28_0 : w27.cell? ⟨gb400, 0, none⟩ = some (.int .i64 0) := (blk_cell BK400.out 0).trans rfl; have hcz28_1 : w27.cell? ⟨gb400, 1, none⟩ = some (.slice none 0 0) := (blk_cell BK400.out 1).trans rfl; have hfz28_0 := blk_frozen BK400.out 0; have hfz28_1 := blk_frozen BK400.out 1))
    refine bodyPost_ret (results_ctt rfl _ _ gb400 40 #[.int .i64 0, .slice none 0 0] (0, 0) _ rfl (by (with_reducible repeat (first | refine blk_drewN ?_ _ | refine blk_drew ?_ | refine blk_alloc ?_ _)); refine blk_put (cs := #[.int .i64 0, .slice none 0 0]) ?_ 1 _ rfl; (with_reducible repeat (first | refine blk_drewN ?_ _ | refine blk_drew ?_ | refine blk_alloc ?_ _)); refine blk_put (cs := #[.int .i64 0, .slice none 0 0]) ?_ 0 _ rfl; (with_reducible repeat (first | refine blk_drewN ?_ _ | refine blk_drew ?_ | refine blk_alloc ?_ _)); exact BK400.out) Try.underlying40 rfl (by kernel_rfl)) rfl ?_
    exact ⟨_, _, by first | rfl | (simp [errW_none, errW_some] <;> rfl) | (simp [*, errW_none, errW_some] <;> rfl), Kd.V_nil _ _ _ _ _, N_NV (by (with_reducible repeat (first | apply Kd.N_alloc | apply Kd.N_drewN | apply Kd.N_drew)); exact Kd.N_mono (Kd.N_far (p := ⟨gb400, 1, none⟩) (Kd.N_far (p := ⟨gb400, 0, none⟩) (Kd.N_mono HO403.out (fun k_ hk => (⟨hk, hk.2⟩ : _ ∧ k_ ≠ gb400))) (fun _ hk => hk.2) (.int .i64 0)) (fun _ hk => hk.2) (.slice none 0 0)) (fun _ hk => hk.1.1)), by repeat (first | (with_reducible first | exact HB.out | apply below_alloc | apply pw_below_drewN | apply below_drew1 | refine below_set ?_ GE400.out) | exact HB.out)⟩

/-! ### thrumref21_Drop: function 46 -/
def thrumref21_Drop.f (k : Nat) (l0 : List (S40)) (a1 : Int) : Option ((List (S40)) × Int) := (thrumref21_Give.f k l0 a1).bind fun bt425 => (some (bt425.2.2.1, bt425.2.2.2))
theorem thrumref21_Drop.mono : ∀ a0 a1 k, LeO (thrumref21_Drop.f k a0 a1) (thrumref21_Drop.f (k + 1) a0 a1) := by
  intro a0 a1 k
  unfold thrumref21_Drop.f
  repeat' first
      | (with_reducible exact thrumref21_Give.mono _ _ _)
      | (with_reducible exact LeO.refl _)
      | (with_reducible exact LeO.none _)
      | (with_reducible refine LeO.ite ?_ ?_)
      | (with_reducible refine LeO.bind ?_ (fun _ => ?_))
      | exact thrumref21_Give.mono _ _ _
      | exact LeO.none _
      | refine LeO.ite ?_ ?_
      | refine LeO.bind ?_ (fun _ => ?_)
set_option maxHeartbeats 8000000 in
set_option maxRecDepth 100000 in
theorem thrumref21_Drop.calls (k : Nat) (A0 : Option Addr) (c0 : Nat) (l0 : List (S40)) (a1 : Int) (r1 : List (S40)) (r2 : Int) (w : World) (hr0 : Kd.C k40 w A0 l0.length l0) (hc0 : l0.length ≤ c0) (h : thrumref21_Drop.f k l0 a1 = some (r1, r2)) :
    Calls Try.prog 46 #[.slice A0 l0.length c0, .int .i64 a1] w fun e w' => ∃ v0_ : Value, e = .returned (.tuple #[v0_, .int .i64 r2]) ∧ NV k40 40 w' w.heap.size (fun k_ => (w.heap.size ≤ k_)) v0_ r1 ∧ Below w.heap.size w w' := by
  have hu40 := Try.underlying40
  have HR0 := Aside0.mk hr0
  have HC0 := Aside0.mk hc0
  clear hr0 hc0
  have HB := Aside0.mk (Below.refl w.heap.size w)
  have H : ((thrumref21_Give.f k l0 a1).bind fun bt425 => (some (bt425.2.2.1, bt425.2.2.2))) = some (r1, r2) := h
  clear h
  replace H := Option.bind_eq_some_iff.mp H
  obtain ⟨⟨t425, t426, t429, t432⟩, A30, H⟩ := H
  replace H : (some (t429, t432)) = some (r1, r2) := H
  have A3 := Aside0.mk A30
  clear A30
  simp only [Option.some.injEq, Prod.mk.injEq] at H
  obtain ⟨rfl, rfl⟩ := H
  go_enter Try.func46, Try.ntmps46
  go_wp2_with (first | ((with_reducible refine gate_callee (f := 45) rfl ?_); refine goesL_ (some 12) rfl rfl Try.func45 (by kernel_rfl) rfl #[.slice A0 l0.length c0, .int .i64 a1] rfl (by (try simp only [List.map_toArray, List.map_cons, List.map_nil]); first | done | rfl | (simp only [List.length_drop, List.length_take]; rfl)) ?_; (with_reducible refine (thrumref21_Give.calls k _ _ l0 a1 t425 t426 t429 t432 _ ?side1 ?side2 A3.out).mono ?_); (case side1 => repeat (first | exact HR0.out | (with_reducible refine Kd.C_alloc ?_ _) | (with_reducible refine Kd.C_drewN ?_ _) | (with_reducible refine Kd.C_drew ?_))); (case side2 => exact HC0.out); rintro e w4 ⟨v427, v430, rfl, ho0, ho1, hb⟩; refine ⟨_, rfl, ?_⟩; have n0_ := Aside0.mk (Kd.V_lower (Kd.V_mono (ok' := fun k_ => (w.heap.size ≤ k_) ∧ some k_ ≠ (v430 : Value).ownBlock) ho0 (fun k_ hk_ => ⟨(Nat.le_trans (below_size (by repeat (first | (with_reducible first | exact HB.out | apply below_alloc | apply pw_below_drewN | apply below_drew1) | exact HB.out))) hk_.1), hk_.2⟩)) (below_size (by repeat (first | (with_reducible first | exact HB.out | apply below_alloc | apply pw_below_drewN | apply below_drew1) | exact HB.out)))); have n1_ := Aside0.mk (NV_lower (NV_mono (ok' := fun k_ => (w.heap.size ≤ k_)) ho1 (fun k_ hk_ => (Nat.le_trans (below_size (by repeat (first | (with_reducible first | exact HB.out | apply below_alloc | apply pw_below_drewN | apply below_drew1) | exact HB.out))) hk_))) (below_size (by repeat (first | (with_reducible first | exact HB.out | apply below_alloc | apply pw_below_drewN | apply below_drew1) | exact HB.out)))); have n2_ := Aside0.mk (below_step (by repeat (first | (with_reducible first | exact HB.out | apply below_alloc | apply pw_below_drewN | apply below_drew1) | exact HB.out)) hb); clear HB; have HO428 := n0_; have HO431 := n1_; have HB := n2_; clear n0_ n1_ n2_; (try clear hb); (try clear hb2); (try clear hk); (try clear hi); (try clear ho0); (try clear ho1)) | ((with_reducible refine gate_dst (N := 6) rfl ?_); refine box_event ?hg (N := 6) ?hd (cs := #[.int .i64 0, .slice none 0 0]) (t := 40) ?hr ?_; (case hd => rfl); (case hg => rfl); (case hr => first | (go_simp; done) | (go_simp; rfl)); intro gb433 hg w5 hbox hb; have n0_ := Aside0.mk (Kd.V_below (Kd.V_elderB (by (with_reducible repeat (first | apply Kd.V_alloc | apply Kd.V_drewN | apply Kd.V_drew)); exact HO428.out) gb433 (Nat.le_of_eq hg.symm)) hb); have n1_ := Aside0.mk (NV_below (NV_elderB (by (with_reducible repeat (first | apply NV_alloc | apply NV_drewN | apply NV_drew)); exact HO431.out) gb433 (Nat.le_of_eq hg.symm)) hb); have n2_ := Aside0.mk (below_step (by repeat (first | (with_reducible first | exact HB.out | apply below_alloc | apply pw_below_drewN | apply below_drew1) | exact HB.out)) hb); have n3_ := Aside0.mk (hbox); have n4_ := Aside0.mk ((by rw [hg]; exact (below_size (by repeat (first | (with_reducible first | exact HB.out | apply below_alloc | apply pw_below_drewN | apply below_drew1) | exact HB.out))) : w.heap.size ≤ gb433)); have n5_ := Aside0.mk ((by rw [hg]; exact (below_size (by repeat (first | (with_reducible first | exact HB.out | apply below_alloc | apply pw_below_drewN | apply below_drew1) | exact HB.out))) : w.heap.size ≤ gb433)); clear HO428; clear HO431; clear HB; have HO428 := n0_; have HO431 := n1_; have HB := n2_; have BK433 := n3_; have GW433 := n4_; have GE433 := n5_; clear n0_ n1_ n2_ n3_ n4_ n5_; clear hb hbox hg; have hcz6_0 : w5.cell? ⟨gb433, 0, none⟩ = some (.int .i64 0) := (blk_cell BK433.out 0).trans rfl; have hcz6_1 : w5.cell? ⟨gb433, 1, none⟩ = some (.slice none 0 0) := (blk_cell BK433.out 1).trans rfl; have hfz6_0 := blk_frozen BK433.out 0; have hfz6_1 := blk_frozen BK433.out 1; obtain ⟨Ao7, co7, eo7⟩ := Kd.V_slice HO428.out; subst eo7))
  go_ret2
  exact ⟨_, by first | rfl | (simp [errW_none, errW_some] <;> rfl) | (simp [*, errW_none, errW_some] <;> rfl), by (with_reducible repeat (first | apply NV_alloc | apply NV_drewN | apply NV_drew)); exact NV_mono (NV_far (p := ⟨gb433, 1, none⟩) (NV_far (p := ⟨gb433, 0, none⟩) (NV_mono HO431.out (fun k_ hk => (⟨hk, hk.2⟩ : _ ∧ k_ ≠ gb433))) (fun _ hk => hk.2) (.int .i64 t425)) (fun _ hk => hk.2) (.slice Ao7 t426.length co7)) (fun _ hk => hk.1.1), by repeat (first | (with_reducible first | exact HB.out | apply below_alloc | apply pw_below_drewN | apply below_drew1 | refine below_set ?_ GE433.out) | exact HB.out)⟩

/-! ### thrumref21_Twice: function 47 -/
def thrumref21_Twice.f (k : Nat) (l0 : List (S40)) (a1 : Int) : Option ((List (S40)) × Int) := (thrumref21_Copy.f k l0).bind fun t434 => ((thrumref21_is.f l0 a1).bind fun t437 => (if t437 = true then (if (l0.length : Int) ≥ 512 then (some (t434, 3)) else (if 0 ≤ a1 then (if a1 ≤ (wrap64 (a1 + 1)) then (if (wrap64 (a1 + 1)) ≤ (l0.length : Int) then ((thrumref21_Copy.f k ((l0.take ((wrap64 (a1 + 1)) : Int).toNat).drop (a1 : Int).toNat)).bind fun t442 => (if t434.length + t442.length < 4398046511104 then (some ((t434 ++ t442), 0)) else (none))) else (none)) else (none)) else (none))) else (some (t434, 1))))
theorem thrumref21_Twice.mono : ∀ a0 a1 k, LeO (thrumref21_Twice.f k a0 a1) (thrumref21_Twice.f (k + 1) a0 a1) := by
  intro a0 a1 k
  unfold thrumref21_Twice.f
  repeat' first
      | (with_reducible exact thrumref21_Copy.mono _ _)
      | (with_reducible exact LeO.refl _)
      | (with_reducible exact LeO.none _)
      | (with_reducible refine LeO.ite ?_ ?_)
      | (with_reducible refine LeO.bind ?_ (fun _ => ?_))
      | exact thrumref21_Copy.mono _ _
      | exact LeO.none _
      | refine LeO.ite ?_ ?_
      | refine LeO.bind ?_ (fun _ => ?_)
set_option maxHeartbeats 8000000 in
set_option maxRecDepth 100000 in
theorem thrumref21_Twice.calls (k : Nat) (A0 : Option Addr) (c0 : Nat) (l0 : List (S40)) (a1 : Int) (r1 : List (S40)) (r2 : Int) (w : World) (hr0 : Kd.C k40 w A0 l0.length l0) (hc0 : l0.length ≤ c0) (h : thrumref21_Twice.f k l0 a1 = some (r1, r2)) :
    Calls Try.prog 47 #[.slice A0 l0.length c0, .int .i64 a1] w fun e w' => ∃ v0_ : Value, e = .returned (.tuple #[v0_, .int .i64 r2]) ∧ Kd.N k40 40 w' w.heap.size (fun k_ => (w.heap.size ≤ k_)) v0_ r1 ∧ Below w.heap.size w w' := by
  have HR0 := Aside0.mk hr0
  have HC0 := Aside0.mk hc0
  clear hr0 hc0
  have HB := Aside0.mk (Below.refl w.heap.size w)
  have H : ((thrumref21_Copy.f k l0).bind fun t434 => ((thrumref21_is.f l0 a1).bind fun t437 => (if t437 = true then (if (l0.length : Int) ≥ 512 then (some (t434, 3)) else (if 0 ≤ a1 then (if a1 ≤ (wrap64 (a1 + 1)) then (if (wrap64 (a1 + 1)) ≤ (l0.length : Int) then ((thrumref21_Copy.f k ((l0.take ((wrap64 (a1 + 1)) : Int).toNat).drop (a1 : Int).toNat)).bind fun t442 => (if t434.length + t442.length < 4398046511104 then (some ((t434 ++ t442), 0)) else (none))) else (none)) else (none)) else (none))) else (some (t434, 1))))) = some (r1, r2) := h
  clear h
  replace H := Option.bind_eq_some_iff.mp H
  obtain ⟨t434, A30, H⟩ := H
  replace H : ((thrumref21_is.f l0 a1).bind fun t437 => (if t437 = true then (if (l0.length : Int) ≥ 512 then (some (t434, 3)) else (if 0 ≤ a1 then (if a1 ≤ (wrap64 (a1 + 1)) then (if (wrap64 (a1 + 1)) ≤ (l0.length : Int) then ((thrumref21_Copy.f k ((l0.take ((wrap64 (a1 + 1)) : Int).toNat).drop (a1 : Int).toNat)).bind fun t442 => (if t434.length + t442.length < 4398046511104 then (some ((t434 ++ t442), 0)) else (none))) else (none)) else (none)) else (none))) else (some (t434, 1)))) = some (r1, r2) := H
  have A3 := Aside0.mk A30
  clear A30
  replace H := Option.bind_eq_some_iff.mp H
  obtain ⟨t437, A40, H⟩ := H
  replace H : (if t437 = true then (if (l0.length : Int) ≥ 512 then (some (t434, 3)) else (if 0 ≤ a1 then (if a1 ≤ (wrap64 (a1 + 1)) then (if (wrap64 (a1 + 1)) ≤ (l0.length : Int) then ((thrumref21_Copy.f k ((l0.take ((wrap64 (a1 + 1)) : Int).toNat).drop (a1 : Int).toNat)).bind fun t442 => (if t434.length + t442.length < 4398046511104 then (some ((t434 ++ t442), 0)) else (none))) else (none)) else (none)) else (none))) else (some (t434, 1))) = some (r1, r2) := H
  have A4 := Aside0.mk A40
  clear A40
  by_cases c5 : t437 = true
  · subst c5
    have H1 : (if (l0.length : Int) ≥ 512 then (some (t434, 3)) else (if 0 ≤ a1 then (if a1 ≤ (wrap64 (a1 + 1)) then (if (wrap64 (a1 + 1)) ≤ (l0.length : Int) then ((thrumref21_Copy.f k ((l0.take ((wrap64 (a1 + 1)) : Int).toNat).drop (a1 : Int).toNat)).bind fun t442 => (if t434.length + t442.length < 4398046511104 then (some ((t434 ++ t442), 0)) else (none))) else (none)) else (none)) else (none))) = some (r1, r2) := by first | (rw [if_pos rfl] at H; exact H) | (rw [if_pos True.intro] at H; exact H)
    clear H
    have H := H1
    clear H1
    by_cases c6 : (l0.length : Int) ≥ 512
    · rw [if_pos c6] at H
      have c6b0 : decide (512 ≤ (l0.length : Int)) = true := decide_eq_true c6
      have c6b1 : decide (512 ≤ l0.length) = true := decide_eq_true (by omega)
      clear c6
      simp only [Option.some.injEq, Prod.mk.injEq] at H
      obtain ⟨rfl, rfl⟩ := H
      go_enter Try.func47, Try.ntmps47
      go_wp2_with (first | ((with_reducible refine gate_callee (f := 43) rfl ?_); refine goesL_ (some 8) rfl rfl Try.func43 (by kernel_rfl) rfl #[.slice A0 l0.length c0] rfl (by (try simp only [List.map_toArray, List.map_cons, List.map_nil]); first | done | rfl | (simp only [List.length_drop, List.length_take]; rfl)) ?_; (with_reducible refine (thrumref21_Copy.calls k _ _ l0 t434 _ ?side1 ?side2 A3.out).mono ?_); (case side1 => repeat (first | exact HR0.out | (with_reducible refine Kd.C_alloc ?_ _) | (with_reducible refine Kd.C_drewN ?_ _) | (with_reducible refine Kd.C_drew ?_))); (case side2 => exact HC0.out); rintro e w7 ⟨v435, rfl, ho0, hb⟩; refine ⟨_, rfl, ?_⟩; have n0_ := Aside0.mk (Kd.N_lower (Kd.N_mono (ok' := fun k_ => (w.heap.size ≤ k_)) (Kd.S_N (Kd.S_bound ho0)) (fun k_ hk_ => (Nat.le_trans (below_size (by repeat (first | (with_reducible first | exact HB.out | apply below_alloc | apply pw_below_drewN | apply below_drew1) | exact HB.out))) hk_.2.1))) (below_size (by repeat (first | (with_reducible first | exact HB.out | apply below_alloc | apply pw_below_drewN | apply below_drew1) | exact HB.out)))); have n1_ := Aside0.mk (below_step (by repeat (first | (with_reducible first | exact HB.out | apply below_alloc | apply pw_below_drewN | apply below_drew1) | exact HB.out)) hb); clear HB; have HO436 := n0_; have HB := n1_; clear n0_ n1_; (try clear hb); (try clear hb2); (try clear hk); (try clear hi); (try clear ho0)) | ((with_reducible refine gate_callee (f := 67) rfl ?_); refine goesL_ (some 11) rfl rfl Try.func67 (by kernel_rfl) rfl #[.slice A0 l0.length c0, .int .i64 a1] rfl (by (try simp only [List.map_toArray, List.map_cons, List.map_nil]); first | done | rfl | (simp only [List.length_drop, List.length_take]; rfl)) ?_; (with_reducible refine (thrumref21_is.calls _ _ l0 a1 true _ ?side1 ?side2 A4.out).mono ?_); (case side1 => repeat (first | exact (Kd.C_below HR0.out HB.out) | (with_reducible refine Kd.C_alloc ?_ _) | (with_reducible refine Kd.C_drewN ?_ _) | (with_reducible refine Kd.C_drew ?_))); (case side2 => exact HC0.out); rintro e w' ⟨rfl, ⟨nd, rfl⟩⟩; refine ⟨_, rfl, ?_⟩))
      go_ret2
      exact ⟨_, by first | rfl | (simp [errW_none, errW_some] <;> rfl) | (simp [*, errW_none, errW_some] <;> rfl), by (with_reducible repeat (first | apply Kd.N_alloc | apply Kd.N_drewN | apply Kd.N_drew)); exact HO436.out, by repeat (first | (with_reducible first | exact HB.out | apply below_alloc | apply pw_below_drewN | apply below_drew1) | exact HB.out)⟩
    · rw [if_neg c6] at H
      have c6b0 : decide (512 ≤ (l0.length : Int)) = false := decide_eq_false c6
      have c6b1 : decide (512 ≤ l0.length) = false := decide_eq_false (by omega)
      clear c6
      by_cases c8 : 0 ≤ a1
      · rw [if_pos c8] at H
        have c8b0 := eq_true c8
        have c8b1 : decide (0 ≤ a1) = true := decide_eq_true c8
        clear c8
        by_cases c9 : a1 ≤ (wrap64 (a1 + 1))
        · rw [if_pos c9] at H
          have c9b0 := eq_true c9
          have c9b1 : decide (a1 ≤ (wrap64 (a1 + 1))) = true := decide_eq_true c9
          by_cases c10 : (wrap64 (a1 + 1)) ≤ (l0.length : Int)
          · rw [if_pos c10] at H
            have c10b0 := eq_true c10
            have c10b1 : decide ((wrap64 (a1 + 1)) ≤ (l0.length : Int)) = true := decide_eq_true c10
            obtain ⟨y438, hy438⟩ : ∃ y_ : List (S40), y_ = ((l0.take ((wrap64 (a1 + 1)) : Int).toNat).drop (a1 : Int).toNat) := ⟨_, rfl⟩
            replace H : ((thrumref21_Copy.f k y438).bind fun t442 => (if t434.length + t442.length < 4398046511104 then (some ((t434 ++ t442), 0)) else (none))) = some (r1, r2) := by first | (rw [hy438]; with_reducible exact H) | (have H2_ := (Option.bind_some _ _).symm.trans H; rw [hy438]; with_reducible exact H2_) | (have H2_ := (Option.bind_some _ _).symm.trans H; with_reducible exact H2_) | with_reducible exact H | (rw [hy438]; exact H) | exact H
            have Ny438 := Aside0.mk hy438
            clear hy438
            replace H := Option.bind_eq_some_iff.mp H
            obtain ⟨t442, A110, H⟩ := H
            replace H : (if t434.length + t442.length < 4398046511104 then (some ((t434 ++ t442), 0)) else (none)) = some (r1, r2) := H
            have A11 := Aside0.mk A110
            clear A110
            by_cases c12 : t434.length + t442.length < 4398046511104
            · rw [if_pos c12] at H
              have LMc12 := Aside0.mk c12
              clear c12
              obtain ⟨y445, hy445⟩ : ∃ y_ : List (S40), y_ = (t434 ++ t442) := ⟨_, rfl⟩
              replace H : (some (y445, 0)) = some (r1, r2) := by first | (rw [hy445]; with_reducible exact H) | (have H2_ := (Option.bind_some _ _).symm.trans H; rw [hy445]; with_reducible exact H2_) | (have H2_ := (Option.bind_some _ _).symm.trans H; with_reducible exact H2_) | with_reducible exact H | (rw [hy445]; exact H) | exact H
              have Ny445 := Aside0.mk hy445
              clear hy445
              simp only [Option.some.injEq, Prod.mk.injEq] at H
              obtain ⟨rfl, rfl⟩ := H
              go_enter Try.func47, Try.ntmps47
              go_wp2_with (first | ((with_reducible refine gate_callee (f := 43) rfl ?_); refine goesL_ (some 8) rfl rfl Try.func43 (by kernel_rfl) rfl #[.slice A0 l0.length c0] rfl (by (try simp only [List.map_toArray, List.map_cons, List.map_nil]); first | done | rfl | (simp only [List.length_drop, List.length_take]; rfl)) ?_; (with_reducible refine (thrumref21_Copy.calls k _ _ l0 t434 _ ?side1 ?side2 A3.out).mono ?_); (case side1 => repeat (first | exact HR0.out | (with_reducible refine Kd.C_alloc ?_ _) | (with_reducible refine Kd.C_drewN ?_ _) | (with_reducible refine Kd.C_drew ?_))); (case side2 => exact HC0.out); rintro e w13 ⟨v435, rfl, ho0, hb⟩; refine ⟨_, rfl, ?_⟩; have n0_ := Aside0.mk (Kd.N_lower (Kd.N_mono (ok' := fun k_ => (w.heap.size ≤ k_)) (Kd.S_N (Kd.S_bound ho0)) (fun k_ hk_ => (Nat.le_trans (below_size (by repeat (first | (with_reducible first | exact HB.out | apply below_alloc | apply pw_below_drewN | apply below_drew1) | exact HB.out))) hk_.2.1))) (below_size (by repeat (first | (with_reducible first | exact HB.out | apply below_alloc | apply pw_below_drewN | apply below_drew1) | exact HB.out)))); have n1_ := Aside0.mk (below_step (by repeat (first | (with_reducible first | exact HB.out | apply below_alloc | apply pw_below_drewN | apply below_drew1) | exact HB.out)) hb); clear HB; have HO436 := n0_; have HB := n1_; clear n0_ n1_; (try clear hb); (try clear hb2); (try clear hk); (try clear hi); (try clear ho0)) | ((with_reducible refine gate_callee (f := 67) rfl ?_); refine goesL_ (some 11) rfl rfl Try.func67 (by kernel_rfl) rfl #[.slice A0 l0.length c0, .int .i64 a1] rfl (by (try simp only [List.map_toArray, List.map_cons, List.map_nil]); first | done | rfl | (simp only [List.length_drop, List.length_take]; rfl)) ?_; (with_reducible refine (thrumref21_is.calls _ _ l0 a1 true _ ?side1 ?side2 A4.out).mono ?_); (case side1 => repeat (first | exact (Kd.C_below HR0.out HB.out) | (with_reducible refine Kd.C_alloc ?_ _) | (with_reducible refine Kd.C_drewN ?_ _) | (with_reducible refine Kd.C_drew ?_))); (case side2 => exact HC0.out); rintro e w' ⟨rfl, ⟨nd, rfl⟩⟩; refine ⟨_, rfl, ?_⟩; have q14 : ((wrap64 (a1 + 1)) : Int) ≤ ((l0.length : Int) : Int) := of_decide_eq_true (by first | (with_reducible assumption) | assumption); obtain ⟨i014, hi014, _, hsz14, _⟩ := info_parts info40; have hroom14 : l0.length ≤ c0 := HC0.out; have hC14 : Kd.C k40 _ A0 l0.length l0 := HR0.out; have ql14 : (a1 : Int) ≤ ((wrap64 (a1 + 1)) : Int) := of_decide_eq_true (by first | (with_reducible assumption) | assumption); have q014 : (0 : Int) ≤ (a1 : Int) := of_decide_eq_true (by first | (with_reducible assumption) | assumption); have hcut14 := cut_mid (P := Try.prog) 33 40 .i64 .i64 Try.underlying33 hi014 2 hsz14 A0 l0.length c0 a1 (wrap64 (a1 + 1)) q014 ql14 q14 hroom14; have hr14 := Kd.C_mid (lo := (a1 : Int).toNat) (hi := ((wrap64 (a1 + 1)) : Int).toNat) (c := c0) hC14 (by omega) (by omega) hroom14; obtain ⟨A14, hA14⟩ : ∃ A1, A1 = (if c0 = (a1 : Int).toNat then A0 else (A0 : Option Addr).map (·.add ((a1 : Int).toNat * 2))) := ⟨_, rfl⟩; obtain ⟨c14, hc14⟩ : ∃ c1, c1 = c0 - (a1 : Int).toNat := ⟨_, rfl⟩; have hy14 : y438.length = ((wrap64 (a1 + 1)) : Int).toNat - (a1 : Int).toNat := (by rw [Ny438.out, List.length_drop, List.length_take] <;> omega); rw [show ((l0).take ((wrap64 (a1 + 1)) : Int).toNat).drop (a1 : Int).toNat = y438 from Ny438.out.symm] at hr14; replace hr14 : Kd.C k40 _ A14 y438.length y438 := (by rw [hA14]; exact hr14); rw [← hy14, ← hA14, ← hc14] at hcut14; have HR441 := Aside0.mk hr14; have HC441 := Aside0.mk (show y438.length ≤ c14 from by rw [hy14, hc14]; exact Nat.sub_le_sub_right (Nat.le_trans (by omega) hroom14) _); clear hr14 hC14 hroom14 hi014 hsz14 hc14; have KY14 := Aside0.mk hy14; have KA14 := Aside0.mk hA14; clear hy14 hA14; replace q14 := eq_true q14; (try (have q14s := q14; rw [List.length_drop] at q14s)); (try (have q14t := q14; rw [List.length_take] at q14t))) | ((with_reducible refine gate_callee (f := 43) rfl ?_); refine goesL_ (some 24) rfl rfl Try.func43 (by kernel_rfl) rfl #[.slice A14 y438.length c14] rfl (by (try simp only [List.map_toArray, List.map_cons, List.map_nil]); first | done | rfl | (simp only [List.length_drop, List.length_take]; rfl)) ?_; (with_reducible refine (thrumref21_Copy.calls k _ _ y438 t442 _ ?side1 ?side2 A11.out).mono ?_); (case side1 => repeat (first | exact (Kd.C_below HR441.out (by repeat (first | (with_reducible first | exact HB.out | apply below_alloc | apply pw_below_drewN | apply below_drew1) | exact HB.out))) | (with_reducible refine Kd.C_alloc ?_ _) | (with_reducible refine Kd.C_drewN ?_ _) | (with_reducible refine Kd.C_drew ?_))); (case side2 => exact HC441.out); rintro e w15 ⟨v443, rfl, ho0, hb⟩; refine ⟨_, rfl, ?_⟩; have n0_ := Aside0.mk (Kd.N_elder' (by (with_reducible repeat (first | apply Kd.N_alloc | apply Kd.N_drewN | apply Kd.N_drew)); exact HO436.out) (by first | exact Kd.N_base ho0 | exact Kd.S_base ho0) hb); have n1_ := Aside0.mk (Kd.N_lower (Kd.N_mono (ok' := fun k_ => (w.heap.size ≤ k_) ∧ some k_ ≠ (v435 : Value).ownBlock) (Kd.S_N (Kd.S_bound ho0)) (fun k_ hk_ => ⟨(Nat.le_trans (below_size (by repeat (first | (with_reducible first | exact HB.out | apply below_alloc | apply pw_below_drewN | apply below_drew1) | exact HB.out))) hk_.2.1), (Kd.fresh' (Kd.N_lt (by (with_reducible repeat (first | apply Kd.N_alloc | apply Kd.N_drewN | apply Kd.N_drew)); exact HO436.out)) k_ hk_.2.1)⟩)) (below_size (by repeat (first | (with_reducible first | exact HB.out | apply below_alloc | apply pw_below_drewN | apply below_drew1) | exact HB.out)))); have n2_ := Aside0.mk (below_step (by repeat (first | (with_reducible first | exact HB.out | apply below_alloc | apply pw_below_drewN | apply below_drew1) | exact HB.out)) hb); clear HO436; clear HB; have HO436 := n0_; have HO444 := n1_; have HB := n2_; clear n0_ n1_ n2_; (try clear hb); (try clear hb2); (try clear hk); (try clear hi); (try clear ho0); obtain ⟨Ao17, co17, eo17⟩ := Kd.N_slice HO444.out; subst eo17) | ((with_reducible refine gate_builtin (b := .append) (xs := #[.tmp 18, .tmp 24]) rfl ?_); at_builtin; refine Kd.N_append_rows k40 (w0 := w) w.heap.size rfl (.tmp 18) (.tmp 24) 33 40 (.agg #[(.int .i64 0), (.slice none 0 0)]) 32 rfl Try.underlying33 info40 rfl (by decide) (by omega) v435 t434 t442 _ _ _ (fun k_ => (w.heap.size ≤ k_)) (fun k_ => ((fun k_ => (w.heap.size ≤ k_))) k_ ∧ some k_ ≠ (v435 : Value).ownBlock) rfl rfl ?aO ?aR (fun _ hk => hk) ?aF ?aB ?aS ?aL ?_; (case aR => exact (by skip; exact Kd.N_F (Kd.N_mono (ok' := (fun k_ => ((fun k_ => (w.heap.size ≤ k_))) k_ ∧ some k_ ≠ (v435 : Value).ownBlock)) (HO444.out) (fun k_ hk => ⟨hk.1, hk.2⟩)))); (case aB => exact (by repeat (first | (with_reducible first | exact HB.out | apply below_alloc | apply pw_below_drewN | apply below_drew1) | exact HB.out))); (case aF => exact (fun k_ hk => (Nat.le_trans (below_size (by repeat (first | (with_reducible first | exact HB.out | apply below_alloc | apply pw_below_drewN | apply below_drew1) | exact HB.out))) hk))); (case aO => exact (by (with_reducible repeat (first | apply Kd.N_alloc | apply Kd.N_drewN | apply Kd.N_drew)); exact Kd.N_mono HO436.out (fun _ hk => hk.1))); (case aS => exact (below_size (by repeat (first | (with_reducible first | exact HB.out | apply below_alloc | apply pw_below_drewN | apply below_drew1) | exact HB.out)))); (case aL => have := LMc12.out; omega); intro v446 w16 ho hb hg hat; rw [← Ny445.out] at ho; have n0_ := Aside0.mk (Kd.N_afterv (ok := (fun k_ => (w.heap.size ≤ k_))) (by (with_reducible repeat (first | apply Kd.N_alloc | apply Kd.N_drewN | apply Kd.N_drew)); exact HO444.out) hg hat); have n1_ := Aside0.mk (hb); have n2_ := Aside0.mk (ho); clear HO444; clear HB; clear HO436; have HO444 := n0_; have HB := n1_; have HO447 := n2_; clear n0_ n1_ n2_; clear ho hb hg hat))
              go_ret2
              exact ⟨_, by first | rfl | (simp [errW_none, errW_some] <;> rfl) | (simp [*, errW_none, errW_some] <;> rfl), by (with_reducible repeat (first | apply Kd.N_alloc | apply Kd.N_drewN | apply Kd.N_drew)); exact HO447.out, by repeat (first | (with_reducible first | exact HB.out | apply below_alloc | apply pw_below_drewN | apply below_drew1) | exact HB.out)⟩
            · rw [if_neg c12] at H
              exact absurd H (by simp)
          · rw [if_neg c10] at H
            exact absurd H (by simp)
        · rw [if_neg c9] at H
          exact absurd H (by simp)
      · rw [if_neg c8] at H
        exact absurd H (by simp)
  · replace c5 := Bool.eq_false_iff.mpr c5
    subst c5
    have H1 : (some (t434, 1)) = some (r1, r2) := by rw [if_neg (show ¬ (false = true) by decide)] at H; exact H
    clear H
    have H := H1
    clear H1
    simp only [Option.some.injEq, Prod.mk.injEq] at H
    obtain ⟨rfl, rfl⟩ := H
    go_enter Try.func47, Try.ntmps47
    go_wp2_with (first | ((with_reducible refine gate_callee (f := 43) rfl ?_); refine goesL_ (some 8) rfl rfl Try.func43 (by kernel_rfl) rfl #[.slice A0 l0.length c0] rfl (by (try simp only [List.map_toArray, List.map_cons, List.map_nil]); first | done | rfl | (simp only [List.length_drop, List.length_take]; rfl)) ?_; (with_reducible refine (thrumref21_Copy.calls k _ _ l0 t434 _ ?side1 ?side2 A3.out).mono ?_); (case side1 => repeat (first | exact HR0.out | (with_reducible refine Kd.C_alloc ?_ _) | (with_reducible refine Kd.C_drewN ?_ _) | (with_reducible refine Kd.C_drew ?_))); (case side2 => exact HC0.out); rintro e w18 ⟨v435, rfl, ho0, hb⟩; refine ⟨_, rfl, ?_⟩; have n0_ := Aside0.mk (Kd.N_lower (Kd.N_mono (ok' := fun k_ => (w.heap.size ≤ k_)) (Kd.S_N (Kd.S_bound ho0)) (fun k_ hk_ => (Nat.le_trans (below_size (by repeat (first | (with_reducible first | exact HB.out | apply below_alloc | apply pw_below_drewN | apply below_drew1) | exact HB.out))) hk_.2.1))) (below_size (by repeat (first | (with_reducible first | exact HB.out | apply below_alloc | apply pw_below_drewN | apply below_drew1) | exact HB.out)))); have n1_ := Aside0.mk (below_step (by repeat (first | (with_reducible first | exact HB.out | apply below_alloc | apply pw_below_drewN | apply below_drew1) | exact HB.out)) hb); clear HB; have HO436 := n0_; have HB := n1_; clear n0_ n1_; (try clear hb); (try clear hb2); (try clear hk); (try clear hi); (try clear ho0)) | ((with_reducible refine gate_callee (f := 67) rfl ?_); refine goesL_ (some 11) rfl rfl Try.func67 (by kernel_rfl) rfl #[.slice A0 l0.length c0, .int .i64 a1] rfl (by (try simp only [List.map_toArray, List.map_cons, List.map_nil]); first | done | rfl | (simp only [List.length_drop, List.length_take]; rfl)) ?_; (with_reducible refine (thrumref21_is.calls _ _ l0 a1 false _ ?side1 ?side2 A4.out).mono ?_); (case side1 => repeat (first | exact (Kd.C_below HR0.out HB.out) | (with_reducible refine Kd.C_alloc ?_ _) | (with_reducible refine Kd.C_drewN ?_ _) | (with_reducible refine Kd.C_drew ?_))); (case side2 => exact HC0.out); rintro e w' ⟨rfl, ⟨nd, rfl⟩⟩; refine ⟨_, rfl, ?_⟩))
    go_ret2
    exact ⟨_, by first | rfl | (simp [errW_none, errW_some] <;> rfl) | (simp [*, errW_none, errW_some] <;> rfl), by (with_reducible repeat (first | apply Kd.N_alloc | apply Kd.N_drewN | apply Kd.N_drew)); exact HO436.out, by repeat (first | (with_reducible first | exact HB.out | apply below_alloc | apply pw_below_drewN | apply below_drew1) | exact HB.out)⟩

/-! ### thrumref21_Swap: function 48 -/
def thrumref21_Swap.f (k : Nat) (l0 : List (S40)) (a1 : Int) (a2 : Int) : Option ((List (S40)) × Int) := (thrumref21_Copy.f k l0).bind fun t448 => ((thrumref21_is.f l0 a1).bind fun t451 => (if t451 = true then ((thrumref21_is.f l0 a2).bind fun t452 => (if t452 = true then (if 0 ≤ a1 then (if a1 < (t448.length : Int) then (if 0 ≤ a2 then (if a2 < (t448.length : Int) then (some (((t448.set (a1 : Int).toNat (⟨(rd_T40 t448 a2).f0, (rd_T40 t448 a2).f1⟩ : S40)).set (a2 : Int).toNat (⟨(rd_T40 t448 a1).f0, (rd_T40 t448 a1).f1⟩ : S40)), 0)) else (none)) else (none)) else (none)) else (none)) else (some (t448, 1)))) else (some (t448, 1))))
theorem thrumref21_Swap.mono : ∀ a0 a1 a2 k, LeO (thrumref21_Swap.f k a0 a1 a2) (thrumref21_Swap.f (k + 1) a0 a1 a2) := by
  intro a0 a1 a2 k
  unfold thrumref21_Swap.f
  repeat' first
      | (with_reducible exact thrumref21_Copy.mono _ _)
      | (with_reducible exact LeO.refl _)
      | (with_reducible exact LeO.none _)
      | (with_reducible refine LeO.ite ?_ ?_)
      | (with_reducible refine LeO.bind ?_ (fun _ => ?_))
      | exact thrumref21_Copy.mono _ _
      | exact LeO.none _
      | refine LeO.ite ?_ ?_
      | refine LeO.bind ?_ (fun _ => ?_)
set_option maxHeartbeats 8000000 in
set_option maxRecDepth 100000 in
theorem thrumref21_Swap.calls (k : Nat) (A0 : Option Addr) (c0 : Nat) (l0 : List (S40)) (a1 : Int) (a2 : Int) (r1 : List (S40)) (r2 : Int) (w : World) (hr0 : Kd.C k40 w A0 l0.length l0) (hc0 : l0.length ≤ c0) (h : thrumref21_Swap.f k l0 a1 a2 = some (r1, r2)) :
    Calls Try.prog 48 #[.slice A0 l0.length c0, .int .i64 a1, .int .i64 a2] w fun e w' => ∃ v0_ : Value, e = .returned (.tuple #[v0_, .int .i64 r2]) ∧ Kd.N k40 40 w' w.heap.size (fun k_ => (w.heap.size ≤ k_)) v0_ r1 ∧ Below w.heap.size w w' := by
  have hu40 := Try.underlying40
  have HR0 := Aside0.mk hr0
  have HC0 := Aside0.mk hc0
  clear hr0 hc0
  have HB := Aside0.mk (Below.refl w.heap.size w)
  have H : ((thrumref21_Copy.f k l0).bind fun t448 => ((thrumref21_is.f l0 a1).bind fun t451 => (if t451 = true then ((thrumref21_is.f l0 a2).bind fun t452 => (if t452 = true then (if 0 ≤ a1 then (if a1 < (t448.length : Int) then (if 0 ≤ a2 then (if a2 < (t448.length : Int) then (some (((t448.set (a1 : Int).toNat (⟨(rd_T40 t448 a2).f0, (rd_T40 t448 a2).f1⟩ : S40)).set (a2 : Int).toNat (⟨(rd_T40 t448 a1).f0, (rd_T40 t448 a1).f1⟩ : S40)), 0)) else (none)) else (none)) else (none)) else (none)) else (some (t448, 1)))) else (some (t448, 1))))) = some (r1, r2) := h
  clear h
  replace H := Option.bind_eq_some_iff.mp H
  obtain ⟨t448, A40, H⟩ := H
  replace H : ((thrumref21_is.f l0 a1).bind fun t451 => (if t451 = true then ((thrumref21_is.f l0 a2).bind fun t452 => (if t452 = true then (if 0 ≤ a1 then (if a1 < (t448.length : Int) then (if 0 ≤ a2 then (if a2 < (t448.length : Int) then (some (((t448.set (a1 : Int).toNat (⟨(rd_T40 t448 a2).f0, (rd_T40 t448 a2).f1⟩ : S40)).set (a2 : Int).toNat (⟨(rd_T40 t448 a1).f0, (rd_T40 t448 a1).f1⟩ : S40)), 0)) else (none)) else (none)) else (none)) else (none)) else (some (t448, 1)))) else (some (t448, 1)))) = some (r1, r2) := H
  have A4 := Aside0.mk A40
  clear A40
  replace H := Option.bind_eq_some_iff.mp H
  obtain ⟨t451, A50, H⟩ := H
  replace H : (if t451 = true then ((thrumref21_is.f l0 a2).bind fun t452 => (if t452 = true then (if 0 ≤ a1 then (if a1 < (t448.length : Int) then (if 0 ≤ a2 then (if a2 < (t448.length : Int) then (some (((t448.set (a1 : Int).toNat (⟨(rd_T40 t448 a2).f0, (rd_T40 t448 a2).f1⟩ : S40)).set (a2 : Int).toNat (⟨(rd_T40 t448 a1).f0, (rd_T40 t448 a1).f1⟩ : S40)), 0)) else (none)) else (none)) else (none)) else (none)) else (some (t448, 1)))) else (some (t448, 1))) = some (r1, r2) := H
  have A5 := Aside0.mk A50
  clear A50
  by_cases c6 : t451 = true
  · subst c6
    have H1 : ((thrumref21_is.f l0 a2).bind fun t452 => (if t452 = true then (if 0 ≤ a1 then (if a1 < (t448.length : Int) then (if 0 ≤ a2 then (if a2 < (t448.length : Int) then (some (((t448.set (a1 : Int).toNat (⟨(rd_T40 t448 a2).f0, (rd_T40 t448 a2).f1⟩ : S40)).set (a2 : Int).toNat (⟨(rd_T40 t448 a1).f0, (rd_T40 t448 a1).f1⟩ : S40)), 0)) else (none)) else (none)) else (none)) else (none)) else (some (t448, 1)))) = some (r1, r2) := by first | (rw [if_pos rfl] at H; exact H) | (rw [if_pos True.intro] at H; exact H)
    clear H
    have H := H1
    clear H1
    replace H := Option.bind_eq_some_iff.mp H
    obtain ⟨t452, A70, H⟩ := H
    replace H : (if t452 = true then (if 0 ≤ a1 then (if a1 < (t448.length : Int) then (if 0 ≤ a2 then (if a2 < (t448.length : Int) then (some (((t448.set (a1 : Int).toNat (⟨(rd_T40 t448 a2).f0, (rd_T40 t448 a2).f1⟩ : S40)).set (a2 : Int).toNat (⟨(rd_T40 t448 a1).f0, (rd_T40 t448 a1).f1⟩ : S40)), 0)) else (none)) else (none)) else (none)) else (none)) else (some (t448, 1))) = some (r1, r2) := H
    have A7 := Aside0.mk A70
    clear A70
    by_cases c8 : t452 = true
    · subst c8
      have H1 : (if 0 ≤ a1 then (if a1 < (t448.length : Int) then (if 0 ≤ a2 then (if a2 < (t448.length : Int) then (some (((t448.set (a1 : Int).toNat (⟨(rd_T40 t448 a2).f0, (rd_T40 t448 a2).f1⟩ : S40)).set (a2 : Int).toNat (⟨(rd_T40 t448 a1).f0, (rd_T40 t448 a1).f1⟩ : S40)), 0)) else (none)) else (none)) else (none)) else (none)) = some (r1, r2) := by first | (rw [if_pos rfl] at H; exact H) | (rw [if_pos True.intro] at H; exact H)
      clear H
      have H := H1
      clear H1
      by_cases c9 : 0 ≤ a1
      · rw [if_pos c9] at H
        have c9b0 : decide (0 ≤ a1) = true := decide_eq_true c9
        clear c9
        by_cases c10 : a1 < (t448.length : Int)
        · rw [if_pos c10] at H
          have c10b0 : decide (a1 < (t448.length : Int)) = true := decide_eq_true c10
          clear c10
          by_cases c11 : 0 ≤ a2
          · rw [if_pos c11] at H
            have c11b0 : decide (0 ≤ a2) = true := decide_eq_true c11
            clear c11
            by_cases c12 : a2 < (t448.length : Int)
            · rw [if_pos c12] at H
              have c12b0 : decide (a2 < (t448.length : Int)) = true := decide_eq_true c12
              clear c12
              obtain ⟨y456, hy456⟩ : ∃ y_ : List (S40), y_ = (t448.set (a1 : Int).toNat (⟨(rd_T40 t448 a2).f0, (rd_T40 t448 a2).f1⟩ : S40)) := ⟨_, rfl⟩
              replace H : (some ((y456.set (a2 : Int).toNat (⟨(rd_T40 t448 a1).f0, (rd_T40 t448 a1).f1⟩ : S40)), 0)) = some (r1, r2) := by first | (rw [hy456]; with_reducible exact H) | (have H2_ := (Option.bind_some _ _).symm.trans H; rw [hy456]; with_reducible exact H2_) | (have H2_ := (Option.bind_some _ _).symm.trans H; with_reducible exact H2_) | with_reducible exact H | (rw [hy456]; exact H) | exact H
              have Ny456 := Aside0.mk hy456
              clear hy456
              obtain ⟨y457, hy457⟩ : ∃ y_ : List (S40), y_ = (y456.set (a2 : Int).toNat (⟨(rd_T40 t448 a1).f0, (rd_T40 t448 a1).f1⟩ : S40)) := ⟨_, rfl⟩
              replace H : (some (y457, 0)) = some (r1, r2) := by first | (rw [hy457]; with_reducible exact H) | (have H2_ := (Option.bind_some _ _).symm.trans H; rw [hy457]; with_reducible exact H2_) | (have H2_ := (Option.bind_some _ _).symm.trans H; with_reducible exact H2_) | with_reducible exact H | (rw [hy457]; exact H) | exact H
              have Ny457 := Aside0.mk hy457
              clear hy457
              simp only [Option.some.injEq, Prod.mk.injEq] at H
              obtain ⟨rfl, rfl⟩ := H
              go_enter Try.func48, Try.ntmps48
              go_wp2_with (first | ((with_reducible refine gate_callee (f := 43) rfl ?_); refine goesL_ (some 11) rfl rfl Try.func43 (by kernel_rfl) rfl #[.slice A0 l0.length c0] rfl (by (try simp only [List.map_toArray, List.map_cons, List.map_nil]); first | done | rfl | (simp only [List.length_drop, List.length_take]; rfl)) ?_; (with_reducible refine (thrumref21_Copy.calls k _ _ l0 t448 _ ?side1 ?side2 A4.out).mono ?_); (case side1 => repeat (first | exact HR0.out | (with_reducible refine Kd.C_alloc ?_ _) | (with_reducible refine Kd.C_drewN ?_ _) | (with_reducible refine Kd.C_drew ?_))); (case side2 => exact HC0.out); rintro e w15 ⟨v449, rfl, ho0, hb⟩; refine ⟨_, rfl, ?_⟩; have n0_ := Aside0.mk (Kd.N_lower (Kd.N_mono (ok' := fun k_ => (w.heap.size ≤ k_)) (Kd.S_N (Kd.S_bound ho0)) (fun k_ hk_ => (Nat.le_trans (below_size (by repeat (first | (with_reducible first | exact HB.out | apply below_alloc | apply pw_below_drewN | apply below_drew1) | exact HB.out))) hk_.2.1))) (below_size (by repeat (first | (with_reducible first | exact HB.out | apply below_alloc | apply pw_below_drewN | apply below_drew1) | exact HB.out)))); have n1_ := Aside0.mk (below_step (by repeat (first | (with_reducible first | exact HB.out | apply below_alloc | apply pw_below_drewN | apply below_drew1) | exact HB.out)) hb); clear HB; have HO450 := n0_; have HB := n1_; clear n0_ n1_; (try clear hb); (try clear hb2); (try clear hk); (try clear hi); (try clear ho0)) | ((with_reducible refine gate_callee (f := 67) rfl ?_); refine goesL_ (some 14) rfl rfl Try.func67 (by kernel_rfl) rfl #[.slice A0 l0.length c0, .int .i64 a1] rfl (by (try simp only [List.map_toArray, List.map_cons, List.map_nil]); first | done | rfl | (simp only [List.length_drop, List.length_take]; rfl)) ?_; (with_reducible refine (thrumref21_is.calls _ _ l0 a1 true _ ?side1 ?side2 A5.out).mono ?_); (case side1 => repeat (first | exact (Kd.C_below HR0.out HB.out) | (with_reducible refine Kd.C_alloc ?_ _) | (with_reducible refine Kd.C_drewN ?_ _) | (with_reducible refine Kd.C_drew ?_))); (case side2 => exact HC0.out); rintro e w' ⟨rfl, ⟨nd, rfl⟩⟩; refine ⟨_, rfl, ?_⟩; (try (rw [drewN_self w15]; generalize hq_ : World.drewN w15 _ = w15; have n0_ : Aside0 (Kd.N k40 40 w15 w.heap.size (fun k_ => (w.heap.size ≤ k_)) v449 t448) := ⟨by rw [← hq_]; exact (by (with_reducible repeat (first | apply Kd.N_alloc | apply Kd.N_drewN | apply Kd.N_drew)); exact HO450.out)⟩; have n1_ : Aside0 (Below w.heap.size w w15) := ⟨by rw [← hq_]; exact (by repeat (first | (with_reducible first | exact HB.out | apply below_alloc | apply pw_below_drewN | apply below_drew1) | exact HB.out))⟩; clear HO450 HB hq_; have HO450 := n0_; have HB := n1_; clear n0_ n1_))) | (go_at_call 67; (with_reducible refine (thrumref21_is.calls _ _ l0 a2 true _ ?side1 ?side2 A7.out).mono ?_); (case side1 => repeat (first | exact (Kd.C_below HR0.out HB.out) | (with_reducible refine Kd.C_alloc ?_ _) | (with_reducible refine Kd.C_drewN ?_ _) | (with_reducible refine Kd.C_drew ?_))); (case side2 => exact HC0.out); rintro e w' ⟨rfl, ⟨nd, rfl⟩⟩; (try (rw [drewN_self w15]; generalize hq_ : World.drewN w15 _ = w15; have n0_ : Aside0 (Kd.N k40 40 w15 w.heap.size (fun k_ => (w.heap.size ≤ k_)) v449 t448) := ⟨by rw [← hq_]; exact (by (with_reducible repeat (first | apply Kd.N_alloc | apply Kd.N_drewN | apply Kd.N_drew)); exact HO450.out)⟩; have n1_ : Aside0 (Below w.heap.size w w15) := ⟨by rw [← hq_]; exact (by repeat (first | (with_reducible first | exact HB.out | apply below_alloc | apply pw_below_drewN | apply below_drew1) | exact HB.out))⟩; clear HO450 HB hq_; have HO450 := n0_; have HB := n1_; clear n0_ n1_)); obtain ⟨Ao16, co16, eo16⟩ := Kd.N_slice HO450.out; subst eo16; have p453 : 0 ≤ (a1 : Int) := of_decide_eq_true (by first | (with_reducible assumption) | assumption); have q453 : a1 < (t448.length : Int) := of_decide_eq_true (by first | (with_reducible assumption) | assumption); obtain ⟨ad453, A453_1, c453_1, e453, hx453_0, hx453_1, hl453_1, hi453_1⟩ := at_T40 (Kd.N_reads' HO450.out).2.2 a1 p453 q453; cases e453; obtain ⟨ce453, hce453, hMe453, hcc453⟩ := Kd.N_get HO450.out z40 a1 p453 (by first | exact q453 | exact of_decide_eq_true (by first | (with_reducible assumption) | assumption) | (have e_ := (Kd.N_reads' HO450.out).1; omega)); obtain ⟨ua453_1, uc453_1, rfl, ul453_1, ge453_1⟩ := k40_openF hMe453; have hv453_1 := hcc453 1 _ rfl; rw [add_field _ _ 1 (by omega)] at hv453_1; replace hv453_1 := Option.some.inj (hv453_1.symm.trans hx453_1); injection hv453_1 with hva_ hvn_ hvc_; rw [hva_] at ge453_1; rw [hvc_] at ul453_1; have HL453_1 := Aside0.mk (show Kd.V (Kd.int .u8) 5 _ w.heap.size _ _ ((rd_T40 t448 a1).f1) from Kd.V_mk ul453_1 ge453_1); clear hva_ hvn_ hvc_ ge453_1 ul453_1; clear hcc453 hce453; have HR453_1 := Aside0.mk hi453_1; have HC453_1 := Aside0.mk hl453_1; clear hi453_1 hl453_1; replace p453 := eq_true p453; (try (have p453s := p453; rw [List.length_drop] at p453s)); (try (have p453t := p453; rw [List.length_take] at p453t)); replace q453 := eq_true q453; (try (have q453s := q453; rw [List.length_drop] at q453s)); (try (have q453t := q453; rw [List.length_take] at q453t))) | ((with_reducible refine gate_dst (N := 9) rfl ?_); refine box_event ?hg (N := 9) ?hd (cs := #[.int .i64 0, .slice none 0 0]) (t := 40) ?hr ?_; (case hd => rfl); (case hg => rfl); (case hr => first | (go_simp; done) | (go_simp; rfl)); intro gb454 hg w17 hbox hb; have n0_ := Aside0.mk (Kd.N_below (Kd.N_elderB (by (with_reducible repeat (first | apply Kd.N_alloc | apply Kd.N_drewN | apply Kd.N_drew)); exact HO450.out) gb454 (Nat.le_of_eq hg.symm)) hb); have n1_ := Aside0.mk (Kd.V_below (Kd.V_elderB (by (with_reducible repeat (first | apply Kd.V_alloc | apply Kd.V_drewN | apply Kd.V_drew)); exact HL453_1.out) gb454 (Nat.le_of_eq hg.symm)) hb); have n2_ := Aside0.mk (Kd.C_below (by repeat (first | (with_reducible exact HR453_1.out) | (with_reducible refine Kd.C_alloc ?_ _) | (with_reducible refine Kd.C_drewN ?_ _) | (with_reducible refine Kd.C_drew ?_) | exact HR453_1.out)) hb); have n3_ := Aside0.mk (below_step (by repeat (first | (with_reducible first | exact HB.out | apply below_alloc | apply pw_below_drewN | apply below_drew1) | exact HB.out)) hb); have n4_ := Aside0.mk (hbox); have n5_ := Aside0.mk ((by rw [hg]; exact (below_size (by repeat (first | (with_reducible first | exact HB.out | apply below_alloc | apply pw_below_drewN | apply below_drew1) | exact HB.out))) : w.heap.size ≤ gb454)); have n6_ := Aside0.mk ((by rw [hg]; exact (below_size (by repeat (first | (with_reducible first | exact HB.out | apply below_alloc | apply pw_below_drewN | apply below_drew1) | exact HB.out))) : w.heap.size ≤ gb454)); clear HO450; clear HL453_1; clear HR453_1; clear HB; have HO450 := n0_; have HL453_1 := n1_; have HR453_1 := n2_; have HB := n3_; have BK454 := n4_; have GW454 := n5_; have GE454 := n6_; clear n0_ n1_ n2_ n3_ n4_ n5_ n6_; clear hb hbox hg; have hcz18_0 : w17.cell? ⟨gb454, 0, none⟩ = some (.int .i64 0) := (blk_cell BK454.out 0).trans rfl; have hcz18_1 : w17.cell? ⟨gb454, 1, none⟩ = some (.slice none 0 0) := (blk_cell BK454.out 1).trans rfl; have hfz18_0 := blk_frozen BK454.out 0; have hfz18_1 := blk_frozen BK454.out 1) | ((with_reducible refine gate_store (t := 40) (p := 9) rfl ?_); refine store_event (t := 40) (p := 9) (v := ?vo_w19) (w1 := ((w17.setCell ⟨gb454, 0, none⟩ (.int .i64 ((rd_T40 t448 a1).f0))).setCell ⟨gb454, 1, none⟩ (.slice A453_1 ((rd_T40 t448 a1).f1).length c453_1))) ?hg ?ho ?hn ?hr ?_; (case ho => rfl); (case hg => rfl); (case hn => rfl); (case hr => first | (go_simp; done) | (go_simp; rfl)); intro w19 hw; have n0_ : Aside0 (Kd.N k40 40 w19 w.heap.size (fun k_ => (w.heap.size ≤ k_) ∧ k_ ≠ gb454) (.slice (some ad453) t448.length co16) t448) := ⟨(by rw [hw]; exact (by (with_reducible repeat (first | apply Kd.N_alloc | apply Kd.N_drewN | apply Kd.N_drew)); exact Kd.N_mono (Kd.N_far (p := ⟨gb454, 1, none⟩) (Kd.N_far (p := ⟨gb454, 0, none⟩) (Kd.N_mono HO450.out (fun k_ hk => (⟨hk, hk.2⟩ : _ ∧ k_ ≠ gb454))) (fun _ hk => hk.2) (.int .i64 ((rd_T40 t448 a1).f0))) (fun _ hk => hk.2) (.slice A453_1 ((rd_T40 t448 a1).f1).length c453_1)) (fun _ hk => ⟨hk.1.1, hk.1.2⟩)))⟩; have n1_ : Aside0 (Kd.V (Kd.int .u8) 5 w19 w.heap.size (fun k_ => (w.heap.size ≤ k_) ∧ some k_ ≠ (.slice (some ad453) t448.length co16 : Value).ownBlock ∧ k_ ≠ gb454) (.slice A453_1 ((rd_T40 t448 a1).f1).length c453_1) ((rd_T40 t448 a1).f1)) := ⟨(by rw [hw]; exact (by (with_reducible repeat (first | apply Kd.V_alloc | apply Kd.V_drewN | apply Kd.V_drew)); exact Kd.V_mono (Kd.V_far (p := ⟨gb454, 1, none⟩) (Kd.V_far (p := ⟨gb454, 0, none⟩) (Kd.V_mono HL453_1.out (fun k_ hk => (⟨hk, hk.2⟩ : _ ∧ k_ ≠ gb454))) (fun _ hk => hk.2) (.int .i64 ((rd_T40 t448 a1).f0))) (fun _ hk => hk.2) (.slice A453_1 ((rd_T40 t448 a1).f1).length c453_1)) (fun _ hk => ⟨hk.1.1.1, ⟨hk.1.1.2, hk.1.2⟩⟩)))⟩; have n2_ : Aside0 (w19.heap[gb454]? = some (.cells #[.int .i64 ((rd_T40 t448 a1).f0), .slice A453_1 ((rd_T40 t448 a1).f1).length c453_1] 40 (0, 0))) := ⟨(by rw [hw]; exact (by (with_reducible repeat (first | refine blk_drewN ?_ _ | refine blk_drew ?_ | refine blk_alloc ?_ _)); refine blk_put (cs := #[.int .i64 ((rd_T40 t448 a1).f0), .slice none 0 0]) ?_ 1 _ rfl; (with_reducible repeat (first | refine blk_drewN ?_ _ | refine blk_drew ?_ | refine blk_alloc ?_ _)); refine blk_put (cs := #[.int .i64 0, .slice none 0 0]) ?_ 0 _ rfl; (with_reducible repeat (first | refine blk_drewN ?_ _ | refine blk_drew ?_ | refine blk_alloc ?_ _)); exact BK454.out))⟩; have n3_ : Aside0 (Below w.heap.size w w19) := ⟨(by rw [hw]; exact (by repeat (first | (with_reducible first | exact HB.out | apply below_alloc | apply pw_below_drewN | apply below_drew1 | refine below_set ?_ GE454.out) | exact HB.out)))⟩; clear hw; clear HO450; clear HL453_1; clear BK454; clear HB; have HO450 := n0_; have HL453_1 := n1_; have BK454 := n2_; have HB := n3_; clear n0_ n1_ n2_ n3_; have p455 : 0 ≤ (a2 : Int) := of_decide_eq_true (by first | (with_reducible assumption) | assumption); have q455 : a2 < (t448.length : Int) := of_decide_eq_true (by first | (with_reducible assumption) | assumption); obtain ⟨ad455, A455_1, c455_1, e455, hx455_0, hx455_1, hl455_1, hi455_1⟩ := at_T40 (Kd.N_reads' HO450.out).2.2 a2 p455 q455; obtain rfl : ad453 = ad455 := (by injection e455); obtain ⟨ce455, hce455, hMe455, hcc455⟩ := Kd.N_get HO450.out z40 a2 p455 (by first | exact q455 | exact of_decide_eq_true (by first | (with_reducible assumption) | assumption) | (have e_ := (Kd.N_reads' HO450.out).1; omega)); obtain ⟨ua455_1, uc455_1, rfl, ul455_1, ge455_1⟩ := k40_openF hMe455; have hv455_1 := hcc455 1 _ rfl; rw [add_field _ _ 1 (by omega)] at hv455_1; replace hv455_1 := Option.some.inj (hv455_1.symm.trans hx455_1); injection hv455_1 with hva_ hvn_ hvc_; rw [hva_] at ge455_1; rw [hvc_] at ul455_1; have HL455_1 := Aside0.mk (show Kd.V (Kd.int .u8) 5 _ w.heap.size _ _ ((rd_T40 t448 a2).f1) from Kd.V_mk ul455_1 ge455_1); clear hva_ hvn_ hvc_ ge455_1 ul455_1; clear hcc455 hce455; have HR455_1 := Aside0.mk hi455_1; have HC455_1 := Aside0.mk hl455_1; clear hi455_1 hl455_1; replace p455 := eq_true p455; (try (have p455s := p455; rw [List.length_drop] at p455s)); (try (have p455t := p455; rw [List.length_take] at p455t)); replace q455 := eq_true q455; (try (have q455s := q455; rw [List.length_drop] at q455s)); (try (have q455t := q455; rw [List.length_take] at q455t)); have p13 : 0 ≤ (a1 : Int) := of_decide_eq_true (by first | (with_reducible assumption) | assumption); have q13 : (a1 : Int) < ((t448.length : Int) : Int) := of_decide_eq_true (by first | (with_reducible assumption) | assumption); obtain ⟨go13, co13, eo13, gb13, gl13, cl13, HG13⟩ := Kd.N_form HO450.out (by omega); (first | cases eo13 | (injection eo13 with ea_ en_ ec_; (first | subst ea_ | (injection ea_ with ea_; subst ea_)); subst ec_; clear en_)); have GB13 := Aside0.mk gb13; have GG13 := Aside0.mk HG13; clear gb13 gl13 HG13; (first | simp only [add_plain] at hx453_0 | skip); (first | simp only [add_plain] at hx453_1 | skip); (first | simp only [add_plain] at hx455_0 | skip); (first | simp only [add_plain] at hx455_1 | skip); obtain ⟨ce13, hcl13, hM13, hcc13, hfr13⟩ := Kd.N_elem HO450.out z40 (a1 : Int) p13 q13; obtain ⟨ua13_1, uc13_1, rfl, ul13_1, ge13_1⟩ := k40_openF hM13; have hx13_0 : w19.cell? ⟨go13, (a1 : Int).toNat * 2, none⟩ = some (.int .i64 ((rd_T40 t448 a1).f0)) := hcc13 0 _ rfl; have hx13_1 : w19.cell? ⟨go13, (a1 : Int).toNat * 2 + 1, none⟩ = some (.slice ua13_1 ((rd_T40 t448 a1).f1).length uc13_1) := hcc13 1 _ rfl; have hf13_0 : w19.frozen? ⟨go13, (a1 : Int).toNat * 2, none⟩ = false := hfr13 0; have hf13_1 : w19.frozen? ⟨go13, (a1 : Int).toNat * 2 + 1, none⟩ = false := hfr13 1; clear hcl13 hcc13 hfr13 hM13; replace p13 := eq_true p13; (try (have p13s := p13; rw [List.length_drop] at p13s)); (try (have p13t := p13; rw [List.length_take] at p13t)); replace q13 := eq_true q13; (try (have q13s := q13; rw [List.length_drop] at q13s)); (try (have q13t := q13; rw [List.length_take] at q13t)); have HX20 := Aside0.mk (show Kd.N k40 40 w19 w.heap.size (fun k_ => (w.heap.size ≤ k_) ∧ k_ ≠ gb454) (.slice (some ⟨go13, 0, none⟩) t448.length co16) t448 from (by (with_reducible repeat (first | apply Kd.N_alloc | apply Kd.N_drewN | apply Kd.N_drew)); exact HO450.out)); obtain ⟨ce20, hcl20, hM20, hcc20, hfr20⟩ := Kd.N_elem HX20.out z40 (a1 : Int) (of_decide_eq_true (by first | (with_reducible assumption) | assumption)) (by have h_ : (a1 : Int) < ((t448.length : Int) : Int) := of_decide_eq_true (by first | (with_reducible assumption) | assumption); first | exact h_ | (have e_ := (Kd.N_reads' HO450.out).1; omega) | simpa using h_); obtain ⟨ua20_1, uc20_1, rfl, ul20_1, ge20_1⟩ := k40_openF hM20; have HP20 := Kd.N_seg HX20.out (a1 : Int) (of_decide_eq_true (by first | (with_reducible assumption) | assumption)) (by have h_ : (a1 : Int) < ((t448.length : Int) : Int) := of_decide_eq_true (by first | (with_reducible assumption) | assumption); first | exact h_ | (have e_ := (Kd.N_reads' HO450.out).1; omega) | simpa using h_) (seg := [.int .i64 ((rd_T40 t448 a2).f0), .slice A455_1 ((rd_T40 t448 a2).f1).length c455_1]) (j := 0) hcl20 hcc20 (show 2 ≤ 2 from by decide) (x' := (⟨(rd_T40 t448 a2).f0, (rd_T40 t448 a2).f1⟩ : S40)) (k40_mkF _ _ (⟨(rd_T40 t448 a2).f0, (rd_T40 t448 a2).f1⟩ : S40) (Kd.V_reads' (Kd.V_mono (ok' := (fun k_ => ((fun k_ => (w.heap.size ≤ k_) ∧ k_ ≠ gb454)) k_ ∧ k_ ≠ go13)) (HL455_1.out) (fun k_ hk => ⟨⟨hk.1.1, hk.1.2⟩, fun e_ => (hk.2) (by rw [e_]; rfl)⟩))).2.1 (Kd.V_F (Kd.V_mono (ok' := (fun k_ => ((fun k_ => (w.heap.size ≤ k_) ∧ k_ ≠ gb454)) k_ ∧ k_ ≠ go13)) (HL455_1.out) (fun k_ hk => ⟨⟨hk.1.1, hk.1.2⟩, fun e_ => (hk.2) (by rw [e_]; rfl)⟩)))) (fun _ hk => hk); have hx20_0 := hcc20 0 _ rfl; (try simp only [show (k40).sz = 2 from rfl, Nat.mul_one, Nat.add_zero] at hx20_0); have hf20_0 := hfr20 0; (try simp only [show (k40).sz = 2 from rfl, Nat.mul_one, Nat.add_zero] at hf20_0); have hx20_1 := hcc20 1 _ rfl; (try simp only [show (k40).sz = 2 from rfl, Nat.mul_one, Nat.add_zero] at hx20_1); have hf20_1 := hfr20 1; (try simp only [show (k40).sz = 2 from rfl, Nat.mul_one, Nat.add_zero] at hf20_1); clear hcl20 hcc20 hfr20 hM20) | ((with_reducible refine gate_store (t := 40) (p := 33) rfl ?_); refine store_event (t := 40) (p := 33) (v := ?vo_w21) (w1 := ((w19.setCell ⟨go13, (a1 : Int).toNat * 2, none⟩ (.int .i64 ((rd_T40 t448 a2).f0))).setCell ⟨go13, (a1 : Int).toNat * 2 + 1, none⟩ (.slice A455_1 ((rd_T40 t448 a2).f1).length c455_1))) ?hg ?ho ?hn ?hr ?_; (case ho => rfl); (case hg => rfl); (case hn => rfl); (case hr => first | (go_simp; done) | (go_simp; rfl)); intro w21 hw; have hg : w19.grownBy w21 (some go13) := (by rw [hw]; exact HP20.2); have hp_ : Kd.N k40 40 w21 w.heap.size (fun k_ => (w.heap.size ≤ k_) ∧ k_ ≠ gb454) (.slice (some ⟨go13, 0, none⟩) t448.length co16) y456 := (by rw [hw, Ny456.out]; exact HP20.1); clear HP20; have n0_ := Aside0.mk (hp_); have n1_ := Aside0.mk (Kd.V_afterv (v := (.slice (some ⟨go13, 0, none⟩) t448.length co16)) (v1 := (.slice (some ⟨go13, 0, none⟩) t448.length co16)) (ok := (fun k_ => (w.heap.size ≤ k_) ∧ k_ ≠ gb454)) (by (with_reducible repeat (first | apply Kd.V_alloc | apply Kd.V_drewN | apply Kd.V_drew)); exact Kd.V_mono HL453_1.out (fun _ hk => ⟨⟨hk.1, hk.2.2⟩, hk.2.1⟩)) hg (.inl rfl)); have n2_ := Aside0.mk (blk_grown (g := gb454) (o := .cells #[.int .i64 ((rd_T40 t448 a1).f0), .slice A453_1 ((rd_T40 t448 a1).f1).length c453_1] 40 (0, 0)) (by (with_reducible repeat (first | refine blk_drewN ?_ _ | refine blk_drew ?_ | refine blk_alloc ?_ _)); exact BK454.out) hg (Kd.N_away HO450.out (fun _ hk => hk.2))); have n3_ := Aside0.mk (Kd.V_afterv (v := (.slice (some ⟨go13, 0, none⟩) t448.length co16)) (v1 := (.slice (some ⟨go13, 0, none⟩) t448.length co16)) (ok := (fun k_ => (w.heap.size ≤ k_) ∧ k_ ≠ gb454)) (by (with_reducible repeat (first | apply Kd.V_alloc | apply Kd.V_drewN | apply Kd.V_drew)); exact HL455_1.out) hg (.inl rfl)); have n4_ := Aside0.mk ((by rw [hw]; exact below_set (below_set (HB.out) GB13.out) GB13.out : Below w.heap.size w w21)); clear HO450; clear HL453_1; clear BK454; clear HL455_1; clear HB; have HO450 := n0_; have HL453_1 := n1_; have BK454 := n2_; have HL455_1 := n3_; have HB := n4_; clear n0_ n1_ n2_ n3_ n4_; clear hg hw hp_; have hcz22_0 : w21.cell? ⟨gb454, 0, none⟩ = some (.int .i64 ((rd_T40 t448 a1).f0)) := (blk_cell BK454.out 0).trans rfl; have hcz22_1 : w21.cell? ⟨gb454, 1, none⟩ = some (.slice A453_1 ((rd_T40 t448 a1).f1).length c453_1) := (blk_cell BK454.out 1).trans rfl; have hfz22_0 := blk_frozen BK454.out 0; have hfz22_1 := blk_frozen BK454.out 1; have p14 : 0 ≤ (a2 : Int) := of_decide_eq_true (by first | (with_reducible assumption) | assumption); have q14 : (a2 : Int) < ((t448.length : Int) : Int) := of_decide_eq_true (by first | (with_reducible assumption) | assumption); obtain ⟨ce14, hcl14, hM14, hcc14, hfr14⟩ := Kd.N_elem HO450.out z40 (a2 : Int) p14 q14; obtain ⟨ua14_1, uc14_1, rfl, ul14_1, ge14_1⟩ := k40_openF hM14; have hx14_0 : w21.cell? ⟨go13, (a2 : Int).toNat * 2, none⟩ = some (.int .i64 ((rd_T40 y456 a2).f0)) := hcc14 0 _ rfl; have hx14_1 : w21.cell? ⟨go13, (a2 : Int).toNat * 2 + 1, none⟩ = some (.slice ua14_1 ((rd_T40 y456 a2).f1).length uc14_1) := hcc14 1 _ rfl; have hf14_0 : w21.frozen? ⟨go13, (a2 : Int).toNat * 2, none⟩ = false := hfr14 0; have hf14_1 : w21.frozen? ⟨go13, (a2 : Int).toNat * 2 + 1, none⟩ = false := hfr14 1; clear hcl14 hcc14 hfr14 hM14; replace p14 := eq_true p14; (try (have p14s := p14; rw [List.length_drop] at p14s)); (try (have p14t := p14; rw [List.length_take] at p14t)); replace q14 := eq_true q14; (try (have q14s := q14; rw [List.length_drop] at q14s)); (try (have q14t := q14; rw [List.length_take] at q14t)); have HX23 := Aside0.mk (show Kd.N k40 40 w21 w.heap.size (fun k_ => (w.heap.size ≤ k_) ∧ k_ ≠ gb454) (.slice (some ⟨go13, 0, none⟩) t448.length co16) y456 from (by (with_reducible repeat (first | apply Kd.N_alloc | apply Kd.N_drewN | apply Kd.N_drew)); exact HO450.out)); obtain ⟨ce23, hcl23, hM23, hcc23, hfr23⟩ := Kd.N_elem HX23.out z40 (a2 : Int) (of_decide_eq_true (by first | (with_reducible assumption) | assumption)) (by have h_ : (a2 : Int) < ((t448.length : Int) : Int) := of_decide_eq_true (by first | (with_reducible assumption) | assumption); first | exact h_ | (have e_ := (Kd.N_reads' HO450.out).1; omega) | simpa using h_); obtain ⟨ua23_1, uc23_1, rfl, ul23_1, ge23_1⟩ := k40_openF hM23; have HP23 := Kd.N_seg HX23.out (a2 : Int) (of_decide_eq_true (by first | (with_reducible assumption) | assumption)) (by have h_ : (a2 : Int) < ((t448.length : Int) : Int) := of_decide_eq_true (by first | (with_reducible assumption) | assumption); first | exact h_ | (have e_ := (Kd.N_reads' HO450.out).1; omega) | simpa using h_) (seg := [.int .i64 ((rd_T40 t448 a1).f0), .slice A453_1 ((rd_T40 t448 a1).f1).length c453_1]) (j := 0) hcl23 hcc23 (show 2 ≤ 2 from by decide) (x' := (⟨(rd_T40 t448 a1).f0, (rd_T40 t448 a1).f1⟩ : S40)) (k40_mkF _ _ (⟨(rd_T40 t448 a1).f0, (rd_T40 t448 a1).f1⟩ : S40) (Kd.V_reads' (Kd.V_mono (ok' := (fun k_ => ((fun k_ => (w.heap.size ≤ k_) ∧ k_ ≠ gb454)) k_ ∧ k_ ≠ go13)) (HL453_1.out) (fun k_ hk => ⟨⟨hk.1.1, hk.1.2⟩, fun e_ => (hk.2) (by rw [e_]; rfl)⟩))).2.1 (Kd.V_F (Kd.V_mono (ok' := (fun k_ => ((fun k_ => (w.heap.size ≤ k_) ∧ k_ ≠ gb454)) k_ ∧ k_ ≠ go13)) (HL453_1.out) (fun k_ hk => ⟨⟨hk.1.1, hk.1.2⟩, fun e_ => (hk.2) (by rw [e_]; rfl)⟩)))) (fun _ hk => hk); have hx23_0 := hcc23 0 _ rfl; (try simp only [show (k40).sz = 2 from rfl, Nat.mul_one, Nat.add_zero] at hx23_0); have hf23_0 := hfr23 0; (try simp only [show (k40).sz = 2 from rfl, Nat.mul_one, Nat.add_zero] at hf23_0); have hx23_1 := hcc23 1 _ rfl; (try simp only [show (k40).sz = 2 from rfl, Nat.mul_one, Nat.add_zero] at hx23_1); have hf23_1 := hfr23 1; (try simp only [show (k40).sz = 2 from rfl, Nat.mul_one, Nat.add_zero] at hf23_1); clear hcl23 hcc23 hfr23 hM23) | ((with_reducible refine gate_store (t := 40) (p := 37) rfl ?_); refine store_event (t := 40) (p := 37) (v := ?vo_w24) (w1 := ((w21.setCell ⟨go13, (a2 : Int).toNat * 2, none⟩ (.int .i64 ((rd_T40 t448 a1).f0))).setCell ⟨go13, (a2 : Int).toNat * 2 + 1, none⟩ (.slice A453_1 ((rd_T40 t448 a1).f1).length c453_1))) ?hg ?ho ?hn ?hr ?_; (case ho => rfl); (case hg => rfl); (case hn => rfl); (case hr => first | (go_simp; done) | (go_simp; rfl)); intro w24 hw; have hg : w21.grownBy w24 (some go13) := (by rw [hw]; exact HP23.2); have hp_ : Kd.N k40 40 w24 w.heap.size (fun k_ => (w.heap.size ≤ k_) ∧ k_ ≠ gb454) (.slice (some ⟨go13, 0, none⟩) t448.length co16) y457 := (by rw [hw, Ny457.out]; exact HP23.1); clear HP23; have n0_ := Aside0.mk (hp_); have n1_ := Aside0.mk (Kd.V_afterv (v := (.slice (some ⟨go13, 0, none⟩) t448.length co16)) (v1 := (.slice (some ⟨go13, 0, none⟩) t448.length co16)) (ok := (fun k_ => (w.heap.size ≤ k_) ∧ k_ ≠ gb454)) (by (with_reducible repeat (first | apply Kd.V_alloc | apply Kd.V_drewN | apply Kd.V_drew)); exact HL453_1.out) hg (.inl rfl)); have n2_ := Aside0.mk (blk_grown (g := gb454) (o := .cells #[.int .i64 ((rd_T40 t448 a1).f0), .slice A453_1 ((rd_T40 t448 a1).f1).length c453_1] 40 (0, 0)) (by (with_reducible repeat (first | refine blk_drewN ?_ _ | refine blk_drew ?_ | refine blk_alloc ?_ _)); exact BK454.out) hg (Kd.N_away HO450.out (fun _ hk => hk.2))); have n3_ := Aside0.mk (Kd.V_afterv (v := (.slice (some ⟨go13, 0, none⟩) t448.length co16)) (v1 := (.slice (some ⟨go13, 0, none⟩) t448.length co16)) (ok := (fun k_ => (w.heap.size ≤ k_) ∧ k_ ≠ gb454)) (by (with_reducible repeat (first | apply Kd.V_alloc | apply Kd.V_drewN | apply Kd.V_drew)); exact HL455_1.out) hg (.inl rfl)); have n4_ := Aside0.mk ((by rw [hw]; exact below_set (below_set (HB.out) GB13.out) GB13.out : Below w.heap.size w w24)); clear HO450; clear HL453_1; clear BK454; clear HL455_1; clear HB; have HO450 := n0_; have HL453_1 := n1_; have BK454 := n2_; have HL455_1 := n3_; have HB := n4_; clear n0_ n1_ n2_ n3_ n4_; clear hg hw hp_))
              go_ret2
              exact ⟨_, by first | rfl | (simp [errW_none, errW_some] <;> rfl) | (simp [*, errW_none, errW_some] <;> rfl), by (with_reducible repeat (first | apply Kd.N_alloc | apply Kd.N_drewN | apply Kd.N_drew)); exact Kd.N_mono HO450.out (fun _ hk => hk.1), by repeat (first | (with_reducible first | exact HB.out | apply below_alloc | apply pw_below_drewN | apply below_drew1 | refine below_set ?_ GE454.out) | exact HB.out)⟩
            · rw [if_neg c12] at H
              exact absurd H (by simp)
          · rw [if_neg c11] at H
            exact absurd H (by simp)
        · rw [if_neg c10] at H
          exact absurd H (by simp)
      · rw [if_neg c9] at H
        exact absurd H (by simp)
    · replace c8 := Bool.eq_false_iff.mpr c8
      subst c8
      have H1 : (some (t448, 1)) = some (r1, r2) := by rw [if_neg (show ¬ (false = true) by decide)] at H; exact H
      clear H
      have H := H1
      clear H1
      simp only [Option.some.injEq, Prod.mk.injEq] at H
      obtain ⟨rfl, rfl⟩ := H
      go_enter Try.func48, Try.ntmps48
      go_wp2_with (first | ((with_reducible refine gate_callee (f := 43) rfl ?_); refine goesL_ (some 11) rfl rfl Try.func43 (by kernel_rfl) rfl #[.slice A0 l0.length c0] rfl (by (try simp only [List.map_toArray, List.map_cons, List.map_nil]); first | done | rfl | (simp only [List.length_drop, List.length_take]; rfl)) ?_; (with_reducible refine (thrumref21_Copy.calls k _ _ l0 t448 _ ?side1 ?side2 A4.out).mono ?_); (case side1 => repeat (first | exact HR0.out | (with_reducible refine Kd.C_alloc ?_ _) | (with_reducible refine Kd.C_drewN ?_ _) | (with_reducible refine Kd.C_drew ?_))); (case side2 => exact HC0.out); rintro e w25 ⟨v449, rfl, ho0, hb⟩; refine ⟨_, rfl, ?_⟩; have n0_ := Aside0.mk (Kd.N_lower (Kd.N_mono (ok' := fun k_ => (w.heap.size ≤ k_)) (Kd.S_N (Kd.S_bound ho0)) (fun k_ hk_ => (Nat.le_trans (below_size (by repeat (first | (with_reducible first | exact HB.out | apply below_alloc | apply pw_below_drewN | apply below_drew1) | exact HB.out))) hk_.2.1))) (below_size (by repeat (first | (with_reducible first | exact HB.out | apply below_alloc | apply pw_below_drewN | apply below_drew1) | exact HB.out)))); have n1_ := Aside0.mk (below_step (by repeat (first | (with_reducible first | exact HB.out | apply below_alloc | apply pw_below_drewN | apply below_drew1) | exact HB.out)) hb); clear HB; have HO450 := n0_; have HB := n1_; clear n0_ n1_; (try clear hb); (try clear hb2); (try clear hk); (try clear hi); (try clear ho0)) | ((with_reducible refine gate_callee (f := 67) rfl ?_); refine goesL_ (some 14) rfl rfl Try.func67 (by kernel_rfl) rfl #[.slice A0 l0.length c0, .int .i64 a1] rfl (by (try simp only [List.map_toArray, List.map_cons, List.map_nil]); first | done | rfl | (simp only [List.length_drop, List.length_take]; rfl)) ?_; (with_reducible refine (thrumref21_is.calls _ _ l0 a1 true _ ?side1 ?side2 A5.out).mono ?_); (case side1 => repeat (first | exact (Kd.C_below HR0.out HB.out) | (with_reducible refine Kd.C_alloc ?_ _) | (with_reducible refine Kd.C_drewN ?_ _) | (with_reducible refine Kd.C_drew ?_))); (case side2 => exact HC0.out); rintro e w' ⟨rfl, ⟨nd, rfl⟩⟩; refine ⟨_, rfl, ?_⟩) | (go_at_call 67; (with_reducible refine (thrumref21_is.calls _ _ l0 a2 false _ ?side1 ?side2 A7.out).mono ?_); (case side1 => repeat (first | exact (Kd.C_below HR0.out (by repeat (first | (with_reducible first | exact HB.out | apply below_alloc | apply pw_below_drewN | apply below_drew1) | exact HB.out))) | (with_reducible refine Kd.C_alloc ?_ _) | (with_reducible refine Kd.C_drewN ?_ _) | (with_reducible refine Kd.C_drew ?_))); (case side2 => exact HC0.out); rintro e w' ⟨rfl, ⟨nd, rfl⟩⟩))
      go_ret2
      exact ⟨_, by first | rfl | (simp [errW_none, errW_some] <;> rfl) | (simp [*, errW_none, errW_some] <;> rfl), by (with_reducible repeat (first | apply Kd.N_alloc | apply Kd.N_drewN | apply Kd.N_drew)); exact HO450.out, by repeat (first | (with_reducible first | exact HB.out | apply below_alloc | apply pw_below_drewN | apply below_drew1) | exact HB.out)⟩
  · replace c6 := Bool.eq_false_iff.mpr c6
    subst c6
    have H1 : (some (t448, 1)) = some (r1, r2) := by rw [if_neg (show ¬ (false = true) by decide)] at H; exact H
    clear H
    have H := H1
    clear H1
    simp only [Option.some.injEq, Prod.mk.injEq] at H
    obtain ⟨rfl, rfl⟩ := H
    go_enter Try.func48, Try.ntmps48
    go_wp2_with (first | ((with_reducible refine gate_callee (f := 43) rfl ?_); refine goesL_ (some 11) rfl rfl Try.func43 (by kernel_rfl) rfl #[.slice A0 l0.length c0] rfl (by (try simp only [List.map_toArray, List.map_cons, List.map_nil]); first | done | rfl | (simp only [List.length_drop, List.length_take]; rfl)) ?_; (with_reducible refine (thrumref21_Copy.calls k _ _ l0 t448 _ ?side1 ?side2 A4.out).mono ?_); (case side1 => repeat (first | exact HR0.out | (with_reducible refine Kd.C_alloc ?_ _) | (with_reducible refine Kd.C_drewN ?_ _) | (with_reducible refine Kd.C_drew ?_))); (case side2 => exact HC0.out); rintro e w26 ⟨v449, rfl, ho0, hb⟩; refine ⟨_, rfl, ?_⟩; have n0_ := Aside0.mk (Kd.N_lower (Kd.N_mono (ok' := fun k_ => (w.heap.size ≤ k_)) (Kd.S_N (Kd.S_bound ho0)) (fun k_ hk_ => (Nat.le_trans (below_size (by repeat (first | (with_reducible first | exact HB.out | apply below_alloc | apply pw_below_drewN | apply below_drew1) | exact HB.out))) hk_.2.1))) (below_size (by repeat (first | (with_reducible first | exact HB.out | apply below_alloc | apply pw_below_drewN | apply below_drew1) | exact HB.out)))); have n1_ := Aside0.mk (below_step (by repeat (first | (with_reducible first | exact HB.out | apply below_alloc | apply pw_below_drewN | apply below_drew1) | exact HB.out)) hb); clear HB; have HO450 := n0_; have HB := n1_; clear n0_ n1_; (try clear hb); (try clear hb2); (try clear hk); (try clear hi); (try clear ho0)) | ((with_reducible refine gate_callee (f := 67) rfl ?_); refine goesL_ (some 14) rfl rfl Try.func67 (by kernel_rfl) rfl #[.slice A0 l0.length c0, .int .i64 a1] rfl (by (try simp only [List.map_toArray, List.map_cons, List.map_nil]); first | done | rfl | (simp only [List.length_drop, List.length_take]; rfl)) ?_; (with_reducible refine (thrumref21_is.calls _ _ l0 a1 false _ ?side1 ?side2 A5.out).mono ?_); (case side1 => repeat (first | exact (Kd.C_below HR0.out HB.out) | (with_reducible refine Kd.C_alloc ?_ _) | (with_reducible refine Kd.C_drewN ?_ _) | (with_reducible refine Kd.C_drew ?_))); (case side2 => exact HC0.out); rintro e w' ⟨rfl, ⟨nd, rfl⟩⟩; refine ⟨_, rfl, ?_⟩))
    go_ret2
    exact ⟨_, by first | rfl | (simp [errW_none, errW_some] <;> rfl) | (simp [*, errW_none, errW_some] <;> rfl), by (with_reducible repeat (first | apply Kd.N_alloc | apply Kd.N_drewN | apply Kd.N_drew)); exact HO450.out, by repeat (first | (with_reducible first | exact HB.out | apply below_alloc | apply pw_below_drewN | apply below_drew1) | exact HB.out)⟩

/-! ### thrumref04_Turn: function 68 -/
def thrumref04_Turn.f (l0 : List Int) (a1 : Int) : Option (List Int × Int) := if a1 < 0 then (some (([] : List Int), 1)) else (if (wrap64 (Int.tdiv a1 8)) ≥ (l0.length : Int) then (some (([] : List Int), 1)) else (if ([] : List Int).length + l0.length < 140737488355328 then ((some (([] : List Int) ++ l0 : List Int)).bind fun y458 => (if 0 ≤ (wrap64 (Int.tdiv a1 8)) then (if (wrap64 (Int.tdiv a1 8)) < (y458.length : Int) then (if 0 ≤ (Int.tmod a1 8) then (some ((y458.set ((wrap64 (Int.tdiv a1 8)) : Int).toNat (Go.bits .xor .u8 (rd y458 (wrap64 (Int.tdiv a1 8))) (shl .u8 1 (Int.tmod a1 8)))), 0)) else (none)) else (none)) else (none))) else (none)))
def thrumref04_Turn.T4 : Bool × List (List Nat × List Nat) := (true, [([], []), ([], []), ([1], [1]), ([0, 2], [0, 2]), ([3], [3]), ([], []), ([5], [5]), ([6], [6]), ([4, 7], [4, 7]), ([0, 2, 0, 1, 2, 3, 4, 5, 6, 7, 8], [0, 2]), ([9, 8, 0, 1, 2, 3, 4, 5, 6, 7, 8], [8, 9])])
def thrumref04_Turn.B4 : List Nat := [0, 0, 2, 7, 15, 0, 32, 96, 255, 511, 1023]
theorem thrumref04_Turn.tab4 : rtab .any (opsOf Try.f68 4) = thrumref04_Turn.T4 := by kernel_rfl
theorem thrumref04_Turn.bits4 : waitsOk thrumref04_Turn.T4.2 thrumref04_Turn.B4 = true := by kernel_rfl
set_option maxHeartbeats 8000000 in
set_option maxRecDepth 100000 in
theorem thrumref04_Turn.calls (A0 : Option Addr) (c0 : Nat) (l0 : List Int) (a1 : Int) (r1 : List Int) (r2 : Int) (w : World) (hr0 : Kd.C (Kd.int .u8) w A0 l0.length l0) (hc0 : l0.length ≤ c0) (h : thrumref04_Turn.f l0 a1 = some (r1, r2)) :
    Calls Try.prog 68 #[.slice A0 l0.length c0, .int .i64 a1] w fun e w' => ∃ v0_ : Value, e = .returned (.tuple #[v0_, .int .i64 r2]) ∧ Kd.R (Kd.int .u8) 5 w' w.heap.size (fun _ => True) v0_ r1 ∧ Below w.heap.size w w' := by
  have HR0 := Aside0.mk hr0
  have HC0 := Aside0.mk hc0
  clear hr0 hc0
  have HB := Aside0.mk (Below.refl w.heap.size w)
  have H : (if a1 < 0 then (some (([] : List Int), 1)) else (if (wrap64 (Int.tdiv a1 8)) ≥ (l0.length : Int) then (some (([] : List Int), 1)) else (if ([] : List Int).length + l0.length < 140737488355328 then ((some (([] : List Int) ++ l0 : List Int)).bind fun y458 => (if 0 ≤ (wrap64 (Int.tdiv a1 8)) then (if (wrap64 (Int.tdiv a1 8)) < (y458.length : Int) then (if 0 ≤ (Int.tmod a1 8) then (some ((y458.set ((wrap64 (Int.tdiv a1 8)) : Int).toNat (Go.bits .xor .u8 (rd y458 (wrap64 (Int.tdiv a1 8))) (shl .u8 1 (Int.tmod a1 8)))), 0)) else (none)) else (none)) else (none))) else (none)))) = some (r1, r2) := h
  clear h
  by_cases c3 : a1 < 0
  · rw [if_pos c3] at H
    have c3b0 : decide (a1 < 0) = true := decide_eq_true c3
    clear c3
    simp only [Option.some.injEq, Prod.mk.injEq] at H
    obtain ⟨rfl, rfl⟩ := H
    go_enter Try.func68, Try.ntmps68
    go_wp2
    go_ret2
    exact ⟨_, by first | rfl | (simp [errW_none, errW_some] <;> rfl) | (simp [*, errW_none, errW_some] <;> rfl), by first | exact Kd.R_nil _ _ _ _ _ | exact Kd.N_nil _ _ _ _ _ | exact Kd.V_nil _ _ _ _ _ | exact Kd.Q_nil _ _ _ _ _ | exact Kd.S_nil _ _ _ _ _, by repeat (first | (with_reducible first | exact HB.out | apply below_alloc | apply pw_below_drewN | apply below_drew1) | exact HB.out)⟩
  · rw [if_neg c3] at H
    have c3b0 : decide (a1 < 0) = false := decide_eq_false c3
    clear c3
    by_cases c4 : (wrap64 (Int.tdiv a1 8)) ≥ (l0.length : Int)
    · rw [if_pos c4] at H
      have c4b0 : decide ((l0.length : Int) ≤ (wrap64 (Int.tdiv a1 8))) = true := decide_eq_true c4
      clear c4
      simp only [Option.some.injEq, Prod.mk.injEq] at H
      obtain ⟨rfl, rfl⟩ := H
      go_enter Try.func68, Try.ntmps68
      go_wp2
      go_ret2
      exact ⟨_, by first | rfl | (simp [errW_none, errW_some] <;> rfl) | (simp [*, errW_none, errW_some] <;> rfl), by first | exact Kd.R_nil _ _ _ _ _ | exact Kd.N_nil _ _ _ _ _ | exact Kd.V_nil _ _ _ _ _ | exact Kd.Q_nil _ _ _ _ _ | exact Kd.S_nil _ _ _ _ _, by repeat (first | (with_reducible first | exact HB.out | apply below_alloc | apply pw_below_drewN | apply below_drew1) | exact HB.out)⟩
    · rw [if_neg c4] at H
      have c4b0 : decide ((l0.length : Int) ≤ (wrap64 (Int.tdiv a1 8))) = false := decide_eq_false c4
      clear c4
      by_cases c5 : ([] : List Int).length + l0.length < 140737488355328
      · rw [if_pos c5] at H
        have LMc5 := Aside0.mk c5
        clear c5
        obtain ⟨y458, hy458⟩ : ∃ y_ : List Int, y_ = (([] : List Int) ++ l0) := ⟨_, rfl⟩
        replace H : (if 0 ≤ (wrap64 (Int.tdiv a1 8)) then (if (wrap64 (Int.tdiv a1 8)) < (y458.length : Int) then (if 0 ≤ (Int.tmod a1 8) then (some ((y458.set ((wrap64 (Int.tdiv a1 8)) : Int).toNat (Go.bits .xor .u8 (rd y458 (wrap64 (Int.tdiv a1 8))) (shl .u8 1 (Int.tmod a1 8)))), 0)) else (none)) else (none)) else (none)) = some (r1, r2) := by first | (rw [hy458]; with_reducible exact H) | (have H2_ := (Option.bind_some _ _).symm.trans H; rw [hy458]; with_reducible exact H2_) | (have H2_ := (Option.bind_some _ _).symm.trans H; with_reducible exact H2_) | with_reducible exact H | (rw [hy458]; exact H) | exact H
        have Ny458 := Aside0.mk hy458
        clear hy458
        obtain ⟨ji6, hji6⟩ : ∃ j_ : Int, (wrap64 (Int.tdiv a1 8)) = j_ := ⟨_, rfl⟩
        replace H : (if 0 ≤ (ji6) then (if (ji6) < (y458.length : Int) then (if 0 ≤ (Int.tmod a1 8) then (some ((y458.set ((ji6) : Int).toNat (Go.bits .xor .u8 (rd y458 (ji6)) (shl .u8 1 (Int.tmod a1 8)))), 0)) else (none)) else (none)) else (none)) = some (r1, r2) := by first | (rw [hji6] at H; exact H) | (simp only [hji6] at H ⊢; exact H)
        (try rw [hji6] at c4b0)
        have hji6w : (IntKind.i64.wrap (Int.tdiv a1 8)) = ji6 := (i64_w _).trans hji6
        by_cases c7 : 0 ≤ (ji6)
        · rw [if_pos c7] at H
          have c7b0 : decide (0 ≤ (ji6)) = true := decide_eq_true c7
          clear c7
          by_cases c8 : (ji6) < (y458.length : Int)
          · rw [if_pos c8] at H
            have c8b0 : decide ((ji6) < (y458.length : Int)) = true := decide_eq_true c8
            clear c8
            obtain ⟨ji9, hji9⟩ : ∃ j_ : Int, (Int.tmod a1 8) = j_ := ⟨_, rfl⟩
            replace H : (if 0 ≤ (ji9) then (some ((y458.set ((ji6) : Int).toNat (Go.bits .xor .u8 (rd y458 (ji6)) (shl .u8 1 (ji9)))), 0)) else (none)) = some (r1, r2) := by first | (rw [hji9] at H; exact H) | (simp only [hji9] at H ⊢; exact H)
            by_cases c10 : 0 ≤ (ji9)
            · rw [if_pos c10] at H
              have c10b0 := eq_true c10
              have c10b1 : decide (0 ≤ (ji9)) = true := decide_eq_true c10
              clear c10
              obtain ⟨ji11, hji11⟩ : ∃ j_ : Int, (shl .u8 1 (ji9)) = j_ := ⟨_, rfl⟩
              replace H : (some ((y458.set ((ji6) : Int).toNat (Go.bits .xor .u8 (rd y458 (ji6)) (ji11))), 0)) = some (r1, r2) := by first | (rw [hji11] at H; exact H) | (simp only [hji11] at H ⊢; exact H)
              have hji11_ : (IntKind.u8.wrap (1 * 2 ^ min (ji9).toNat 8)) = ji11 := hji11
              have hji11z : (ji9) ≤ 8 → (IntKind.u8.wrap (1 * 2 ^ (ji9).toNat)) = ji11 := shl_small hji11
              have hji11u : (IntKind.u8.wrap (2 ^ min (ji9).toNat 8)) = ji11 := by have h_ := hji11_; rw [Int.one_mul] at h_; exact h_
              have hji11v : (ji9) ≤ 8 → (IntKind.u8.wrap (2 ^ (ji9).toNat)) = ji11 := fun hle_ => by have h_ := hji11z hle_; rw [Int.one_mul] at h_; exact h_
              obtain ⟨y462, hy462⟩ : ∃ y_ : List Int, y_ = (y458.set ((ji6) : Int).toNat (Go.bits .xor .u8 (rd y458 (ji6)) (ji11))) := ⟨_, rfl⟩
              replace H : (some (y462, 0)) = some (r1, r2) := by first | (rw [hy462]; with_reducible exact H) | (have H2_ := (Option.bind_some _ _).symm.trans H; rw [hy462]; with_reducible exact H2_) | (have H2_ := (Option.bind_some _ _).symm.trans H; with_reducible exact H2_) | with_reducible exact H | (rw [hy462]; exact H) | exact H
              have Ny462 := Aside0.mk hy462
              clear hy462
              simp only [Option.some.injEq, Prod.mk.injEq] at H
              obtain ⟨rfl, rfl⟩ := H
              go_enter Try.func68, Try.ntmps68
              try go_wp2_with (first | ((with_reducible refine gate_builtin (b := .append) (xs := #[.const (.slice none 0 0), .tmp 16]) rfl ?_); (try (refine gate_guard (by rfl) ?_; dsimp only)); at_builtin; refine Kd.R_append_rows (Kd.int .u8) (w0 := w) w.heap.size rfl (.const (.slice none 0 0)) (.tmp 16) 26 5 (.int .u8 0) 1 rfl Try.underlying26 info5 rfl (by decide) (by omega) (.slice none 0 0) ([] : List Int) l0 _ _ _ (fun _ => True) (fun _ => False) rfl rfl ?aO ?aR (fun _ _ h => h) (fun _ h => h.elim) ?aF ?aB ?aS ?aL ?_; (case aR => repeat (first | exact HR0.out | (with_reducible refine Kd.C_alloc ?_ _) | (with_reducible refine Kd.C_drewN ?_ _) | (with_reducible refine Kd.C_drew ?_))); (case aB => exact (by repeat (first | (with_reducible first | exact HB.out | apply below_alloc | apply pw_below_drewN | apply below_drew1) | exact HB.out))); (case aF => exact (fun _ _ => trivial)); (case aO => exact ((Kd.R_nil _ _ _ _ (fun _ => True)))); (case aS => exact (below_size (by repeat (first | (with_reducible first | exact HB.out | apply below_alloc | apply pw_below_drewN | apply below_drew1) | exact HB.out)))); (case aL => have := LMc5.out; omega); intro v459 w13 ho hb hg hat; rw [← Ny458.out] at ho; have n0_ := Aside0.mk (hb); have n1_ := Aside0.mk (ho); clear HB; have HB := n0_; have HO460 := n1_; clear n0_ n1_; clear ho hb hg hat))
              have n0_ := Aside0.mk (Kd.R_drew HO460.out)
              have n1_ := Aside0.mk (below_drew1 HB.out)
              clear HO460
              clear HB
              have HO460 := n0_
              have HB := n1_
              clear n0_ n1_
              obtain ⟨Ao15, co15, eo15⟩ := Kd.R_slice HO460.out
              (first | subst eo15 | (injection eo15 with f1_ f2_ f3_; have f4_ := f1_.symm; have f5_ := f3_.symm; clear f1_ f2_ f3_; subst f4_; subst f5_))
              have p461 : 0 ≤ ((ji6) : Int) := of_decide_eq_true (by first | (with_reducible assumption) | assumption)
              have q461 : (ji6) < (y458.length : Int) := of_decide_eq_true (by first | (with_reducible assumption) | assumption)
              obtain ⟨ad461, e461, hx461_0⟩ := Kd.at_int (Kd.R_reads' HO460.out).2.2 (ji6) p461 q461
              cases e461
              replace p461 := eq_true p461
              replace q461 := eq_true q461
              have p12 : 0 ≤ ((ji6) : Int) := of_decide_eq_true (by first | (with_reducible assumption) | assumption)
              have q12 : ((ji6) : Int) < ((y458.length : Int) : Int) := of_decide_eq_true (by first | (with_reducible assumption) | assumption)
              obtain ⟨go12, co12, eo12, gb12, gl12, cl12, HG12⟩ := Kd.R_form HO460.out (by omega)
              (first | cases eo12 | (injection eo12 with ea_ en_ ec_; (first | subst ea_ | (injection ea_ with ea_; subst ea_)); subst ec_; clear en_))
              have GB12 := Aside0.mk gb12
              have GG12 := Aside0.mk HG12
              clear gb12 gl12 HG12
              (first | simp only [add_plain] at hx461_0 | skip)
              obtain ⟨hx12_0, hf12_0⟩ := Kd.R_celln 0 HO460.out ((ji6) : Int) p12 q12
              replace p12 := eq_true p12
              replace q12 := eq_true q12
              have HP16 := Kd.R_putn HO460.out ((ji6) : Int) (Go.bits .xor .u8 (rd y458 (ji6)) (ji11))
              rw [← Ny462.out] at HP16
              have HQ16 := Aside0.mk HP16
              clear HP16
              refine start_ (n := 11) (S := fun w' => w'.cell? ⟨go12, ((ji6)).toNat, none⟩ = some (.int .u8 (rd y458 (ji6)))) (ds := [10]) #[false, false, false, false, false, false, false, false, false, false, false] (by kernel_rfl) rfl rfl (hx461_0) (fun hHeld => ?_); refine with_tabW thrumref04_Turn.tab4 thrumref04_Turn.bits4 (fun HT_ HW_ => ?_)
              generalize w13.drew = w14 at HO460 HB GG12 HQ16 hf12_0 hx12_0 hx461_0 hHeld ⊢
              refine pure_ (i := 0) (N := some 18) (v := ?_) (a' := ?_) #[true, false, false, false, false, false, false, false, false, false, false] rfl rfl (any_of HT_.out (by kernel_rfl)) (fun _ _ _ h => h) (Or.inl ⟨by rfl, ?_⟩) ?_ ?_
              rotate_left
              · intro w'
                go_simp
                with_reducible rfl
              rotate_left
              · simp only [Act.put, List.setIfInBounds_toArray, List.set_cons_zero, List.set_cons_succ, i64_w, i32_w]
                rfl
              refine pure_ (i := 1) (N := some 19) (v := ?_) (a' := ?_) #[true, true, false, false, false, false, false, false, false, false, false] rfl rfl (any_of HT_.out (by kernel_rfl)) (fun _ _ _ h => h) (Or.inl ⟨by rfl, ?_⟩) ?_ ?_
              rotate_left
              · intro w'
                go_simp
                with_reducible rfl
              rotate_left
              · simp only [Act.put, List.setIfInBounds_toArray, List.set_cons_zero, List.set_cons_succ, i64_w, i32_w]
                rfl
              refine pure_ (i := 2) (N := some 20) (v := ?_) (a' := ?_) #[true, true, true, false, false, false, false, false, false, false, false] rfl rfl (any_of HT_.out (by kernel_rfl)) (fun _ _ _ h => h) (Or.inl ⟨by rfl, ?_⟩) ?_ ?_
              rotate_left
              · intro w'
                go_simp
                with_reducible rfl
              rotate_left
              · simp only [Act.put, List.setIfInBounds_toArray, List.set_cons_zero, List.set_cons_succ, i64_w, i32_w]
                rfl
              refine pure_ (i := 3) (N := some 21) (v := ?_) (a' := ?_) #[true, true, true, true, false, false, false, false, false, false, false] rfl rfl (any_of HT_.out (by kernel_rfl)) (fun _ _ _ h => h) (Or.inl ⟨by rfl, ?_⟩) ?_ ?_
              rotate_left
              · intro w'
                go_simp
                with_reducible rfl
              rotate_left
              · simp only [Act.put, List.setIfInBounds_toArray, List.set_cons_zero, List.set_cons_succ, i64_w, i32_w]
                rfl
              refine pure_ (i := 5) (N := some 23) (v := ?_) (a' := ?_) #[true, true, true, true, false, true, false, false, false, false, false] rfl rfl (any_of HT_.out (by kernel_rfl)) (fun _ _ _ h => h) (Or.inl ⟨by rfl, ?_⟩) ?_ ?_
              rotate_left
              · intro w'
                go_simp
                with_reducible rfl
              rotate_left
              · simp only [Act.put, List.setIfInBounds_toArray, List.set_cons_zero, List.set_cons_succ, i64_w, i32_w]
                rfl
              refine pure_ (i := 6) (N := some 24) (v := ?_) (a' := ?_) #[true, true, true, true, false, true, true, false, false, false, false] rfl rfl (any_of HT_.out (by kernel_rfl)) (fun _ _ _ h => h) (Or.inl ⟨by rfl, ?_⟩) ?_ ?_
              rotate_left
              · intro w'
                go_simp
                with_reducible rfl
              rotate_left
              · simp only [Act.put, List.setIfInBounds_toArray, List.set_cons_zero, List.set_cons_succ, i64_w, i32_w]
                rfl
              refine pure_ (i := 7) (N := some 25) (v := ?_) (a' := ?_) #[true, true, true, true, false, true, true, true, false, false, false] rfl rfl (any_of HT_.out (by kernel_rfl)) (fun _ _ _ h => h) (Or.inl ⟨by rfl, ?_⟩) ?_ ?_
              rotate_left
              · intro w'
                go_simp
                with_reducible rfl
              rotate_left
              · simp only [Act.put, List.setIfInBounds_toArray, List.set_cons_zero, List.set_cons_succ, i64_w, i32_w]
                rfl
              refine take_ (i := 4) (N := some 22) (v := ?_) (a' := ?_) #[true, true, true, true, true, true, true, true, false, false, false] rfl rfl (take_ofW HT_.out HW_.out (by kernel_rfl)) (fun _ _ _ h => h) (Or.inl ⟨by rfl, ?_⟩) hHeld ?_ ?_
              rotate_left
              · intro w' s0
                go_simp
                with_reducible rfl
              rotate_left
              · simp only [Act.put, List.setIfInBounds_toArray, List.set_cons_zero, List.set_cons_succ, i64_w, i32_w]
                rfl
              refine pure_ (i := 8) (N := some 26) (v := ?_) (a' := ?_) #[true, true, true, true, true, true, true, true, true, false, false] rfl rfl (any_of HT_.out (by kernel_rfl)) (fun _ _ _ h => h) (Or.inl ⟨by rfl, ?_⟩) ?_ ?_
              rotate_left
              · intro w'
                go_simp
                with_reducible rfl
              rotate_left
              · simp only [Act.put, List.setIfInBounds_toArray, List.set_cons_zero, List.set_cons_succ, i64_w, i32_w]
                rfl
              refine pure_ (i := 9) (N := some 27) (v := ?_) (a' := ?_) #[true, true, true, true, true, true, true, true, true, true, false] rfl rfl (any_of HT_.out (by kernel_rfl)) (fun _ _ _ h => h) (Or.inl ⟨by rfl, ?_⟩) ?_ ?_
              rotate_left
              · intro w'
                go_simp
                with_reducible rfl
              rotate_left
              · simp only [Act.put, List.setIfInBounds_toArray, List.set_cons_zero, List.set_cons_succ, i64_w, i32_w]
                rfl
              refine last_ (i := 10) (N := none) #[true, true, true, true, true, true, true, true, true, true, true] rfl rfl (one_of HT_.out (by kernel_rfl)) (by decide) (fun K hK => ?_)
              refine skip_ (w1 := ?_) (by rfl) rfl ?_ ?_
              rotate_left
              · go_simp
                rfl
              refine hK.out _ _ ?_
              clear hK K
              refine done_ (done_of HT_.out (by kernel_rfl)) ?_
              try go_wp2
              go_ret2
              exact ⟨_, by first | rfl | (simp [errW_none, errW_some] <;> rfl) | (simp only [← hji6, ← hji9, ← hji11]; first | rfl | (simp [errW_none, errW_some] <;> rfl)) | (simp [*, errW_none, errW_some] <;> rfl), by (with_reducible repeat (first | apply Kd.R_alloc | apply Kd.R_drewN | apply Kd.R_drew)); exact HQ16.out, by repeat (first | (with_reducible first | exact HB.out | apply below_alloc | apply pw_below_drewN | apply below_drew1 | refine below_set ?_ GB12.out) | exact HB.out)⟩
            · rw [if_neg c10] at H
              exact absurd H (by simp)
          · rw [if_neg c8] at H
            exact absurd H (by simp)
        · rw [if_neg c7] at H
          exact absurd H (by simp)
      · rw [if_neg c5] at H
        exact absurd H (by simp)

/-! ### thrumref21_Spoil: function 49 -/
def thrumref21_Spoil.f (k : Nat) (l0 : List (S40)) (a1 : Int) (a2 : Int) : Option ((List (S40)) × Int) := (thrumref21_Copy.f k l0).bind fun t463 => ((thrumref21_is.f l0 a1).bind fun t466 => (if t466 = true then (if 0 ≤ a1 then (if a1 < (l0.length : Int) then ((thrumref04_Turn.f ((rd_T40 l0 a1).f1) a2).bind fun bt468 => (if bt468.2 = 0 then (if a1 < (t463.length : Int) then (some ((t463.set (a1 : Int).toNat (⟨(rd_T40 t463 a1).f0, bt468.1⟩ : S40)), 0)) else (none)) else (some (t463, bt468.2)))) else (none)) else (none)) else (some (t463, 1))))
theorem thrumref21_Spoil.mono : ∀ a0 a1 a2 k, LeO (thrumref21_Spoil.f k a0 a1 a2) (thrumref21_Spoil.f (k + 1) a0 a1 a2) := by
  intro a0 a1 a2 k
  unfold thrumref21_Spoil.f
  repeat' first
      | (with_reducible exact thrumref21_Copy.mono _ _)
      | (with_reducible exact LeO.refl _)
      | (with_reducible exact LeO.none _)
      | (with_reducible refine LeO.ite ?_ ?_)
      | (with_reducible refine LeO.bind ?_ (fun _ => ?_))
      | exact thrumref21_Copy.mono _ _
      | exact LeO.none _
      | refine LeO.ite ?_ ?_
      | refine LeO.bind ?_ (fun _ => ?_)
set_option maxHeartbeats 8000000 in
set_option maxRecDepth 100000 in
theorem thrumref21_Spoil.calls (k : Nat) (A0 : Option Addr) (c0 : Nat) (l0 : List (S40)) (a1 : Int) (a2 : Int) (r1 : List (S40)) (r2 : Int) (w : World) (hr0 : Kd.C k40 w A0 l0.length l0) (hc0 : l0.length ≤ c0) (h : thrumref21_Spoil.f k l0 a1 a2 = some (r1, r2)) :
    Calls Try.prog 49 #[.slice A0 l0.length c0, .int .i64 a1, .int .i64 a2] w fun e w' => ∃ v0_ : Value, e = .returned (.tuple #[v0_, .int .i64 r2]) ∧ Kd.S k40 40 w' w.heap.size (fun _ => True) v0_ r1 ∧ Below w.heap.size w w' := by
  have HR0 := Aside0.mk hr0
  have HC0 := Aside0.mk hc0
  clear hr0 hc0
  have HB := Aside0.mk (Below.refl w.heap.size w)
  have H : ((thrumref21_Copy.f k l0).bind fun t463 => ((thrumref21_is.f l0 a1).bind fun t466 => (if t466 = true then (if 0 ≤ a1 then (if a1 < (l0.length : Int) then ((thrumref04_Turn.f ((rd_T40 l0 a1).f1) a2).bind fun bt468 => (if bt468.2 = 0 then (if a1 < (t463.length : Int) then (some ((t463.set (a1 : Int).toNat (⟨(rd_T40 t463 a1).f0, bt468.1⟩ : S40)), 0)) else (none)) else (some (t463, bt468.2)))) else (none)) else (none)) else (some (t463, 1))))) = some (r1, r2) := h
  clear h
  replace H := Option.bind_eq_some_iff.mp H
  obtain ⟨t463, A40, H⟩ := H
  replace H : ((thrumref21_is.f l0 a1).bind fun t466 => (if t466 = true then (if 0 ≤ a1 then (if a1 < (l0.length : Int) then ((thrumref04_Turn.f ((rd_T40 l0 a1).f1) a2).bind fun bt468 => (if bt468.2 = 0 then (if a1 < (t463.length : Int) then (some ((t463.set (a1 : Int).toNat (⟨(rd_T40 t463 a1).f0, bt468.1⟩ : S40)), 0)) else (none)) else (some (t463, bt468.2)))) else (none)) else (none)) else (some (t463, 1)))) = some (r1, r2) := H
  have A4 := Aside0.mk A40
  clear A40
  replace H := Option.bind_eq_some_iff.mp H
  obtain ⟨t466, A50, H⟩ := H
  replace H : (if t466 = true then (if 0 ≤ a1 then (if a1 < (l0.length : Int) then ((thrumref04_Turn.f ((rd_T40 l0 a1).f1) a2).bind fun bt468 => (if bt468.2 = 0 then (if a1 < (t463.length : Int) then (some ((t463.set (a1 : Int).toNat (⟨(rd_T40 t463 a1).f0, bt468.1⟩ : S40)), 0)) else (none)) else (some (t463, bt468.2)))) else (none)) else (none)) else (some (t463, 1))) = some (r1, r2) := H
  have A5 := Aside0.mk A50
  clear A50
  by_cases c6 : t466 = true
  · subst c6
    have H1 : (if 0 ≤ a1 then (if a1 < (l0.length : Int) then ((thrumref04_Turn.f ((rd_T40 l0 a1).f1) a2).bind fun bt468 => (if bt468.2 = 0 then (if a1 < (t463.length : Int) then (some ((t463.set (a1 : Int).toNat (⟨(rd_T40 t463 a1).f0, bt468.1⟩ : S40)), 0)) else (none)) else (some (t463, bt468.2)))) else (none)) else (none)) = some (r1, r2) := by first | (rw [if_pos rfl] at H; exact H) | (rw [if_pos True.intro] at H; exact H)
    clear H
    have H := H1
    clear H1
    by_cases c7 : 0 ≤ a1
    · rw [if_pos c7] at H
      have c7b0 : decide (0 ≤ a1) = true := decide_eq_true c7
      clear c7
      by_cases c8 : a1 < (l0.length : Int)
      · rw [if_pos c8] at H
        have c8b0 : decide (a1 < (l0.length : Int)) = true := decide_eq_true c8
        clear c8
        replace H := Option.bind_eq_some_iff.mp H
        obtain ⟨⟨t468, t469⟩, A90, H⟩ := H
        replace H : (if t469 = 0 then (if a1 < (t463.length : Int) then (some ((t463.set (a1 : Int).toNat (⟨(rd_T40 t463 a1).f0, t468⟩ : S40)), 0)) else (none)) else (some (t463, t469))) = some (r1, r2) := H
        have A9 := Aside0.mk A90
        clear A90
        by_cases c10 : t469 = 0
        · rw [if_pos c10] at H
          have c10b0 : (t469 == 0) = true := beq_iff_eq.mpr c10
          have c10b1 : (t469 != 0) = false := bne_eq_false_iff_eq.mpr c10
          clear c10
          by_cases c11 : a1 < (t463.length : Int)
          · rw [if_pos c11] at H
            have c11b0 : decide (a1 < (t463.length : Int)) = true := decide_eq_true c11
            clear c11
            obtain ⟨y472, hy472⟩ : ∃ y_ : List (S40), y_ = (t463.set (a1 : Int).toNat (⟨(rd_T40 t463 a1).f0, t468⟩ : S40)) := ⟨_, rfl⟩
            replace H : (some (y472, 0)) = some (r1, r2) := by first | (rw [hy472]; with_reducible exact H) | (have H2_ := (Option.bind_some _ _).symm.trans H; rw [hy472]; with_reducible exact H2_) | (have H2_ := (Option.bind_some _ _).symm.trans H; with_reducible exact H2_) | with_reducible exact H | (rw [hy472]; exact H) | exact H
            have Ny472 := Aside0.mk hy472
            clear hy472
            simp only [Option.some.injEq, Prod.mk.injEq] at H
            obtain ⟨rfl, rfl⟩ := H
            go_enter Try.func49, Try.ntmps49
            go_wp2_with (first | ((with_reducible refine gate_callee (f := 43) rfl ?_); refine goesL_ (some 12) rfl rfl Try.func43 (by kernel_rfl) rfl #[.slice A0 l0.length c0] rfl (by (try simp only [List.map_toArray, List.map_cons, List.map_nil]); first | done | rfl | (simp only [List.length_drop, List.length_take]; rfl)) ?_; (with_reducible refine (thrumref21_Copy.calls k _ _ l0 t463 _ ?side1 ?side2 A4.out).mono ?_); (case side1 => repeat (first | exact HR0.out | (with_reducible refine Kd.C_alloc ?_ _) | (with_reducible refine Kd.C_drewN ?_ _) | (with_reducible refine Kd.C_drew ?_))); (case side2 => exact HC0.out); rintro e w13 ⟨v464, rfl, ho0, hb⟩; refine ⟨_, rfl, ?_⟩; have n0_ := Aside0.mk (Kd.S_lower ho0 (below_size (by repeat (first | (with_reducible first | exact HB.out | apply below_alloc | apply pw_below_drewN | apply below_drew1) | exact HB.out)))); have n1_ := Aside0.mk (below_step (by repeat (first | (with_reducible first | exact HB.out | apply below_alloc | apply pw_below_drewN | apply below_drew1) | exact HB.out)) hb); clear HB; have HO465 := n0_; have HB := n1_; clear n0_ n1_; (try clear hb); (try clear hb2); (try clear hk); (try clear hi); (try clear ho0)) | ((with_reducible refine gate_callee (f := 67) rfl ?_); refine goesL_ (some 15) rfl rfl Try.func67 (by kernel_rfl) rfl #[.slice A0 l0.length c0, .int .i64 a1] rfl (by (try simp only [List.map_toArray, List.map_cons, List.map_nil]); first | done | rfl | (simp only [List.length_drop, List.length_take]; rfl)) ?_; (with_reducible refine (thrumref21_is.calls _ _ l0 a1 true _ ?side1 ?side2 A5.out).mono ?_); (case side1 => repeat (first | exact (Kd.C_below HR0.out HB.out) | (with_reducible refine Kd.C_alloc ?_ _) | (with_reducible refine Kd.C_drewN ?_ _) | (with_reducible refine Kd.C_drew ?_))); (case side2 => exact HC0.out); rintro e w' ⟨rfl, ⟨nd, rfl⟩⟩; refine ⟨_, rfl, ?_⟩; (try (rw [drewN_self w13]; generalize hq_ : World.drewN w13 _ = w13; have n0_ : Aside0 (Kd.S k40 40 w13 w.heap.size (fun _ => True) v464 t463) := ⟨by rw [← hq_]; exact (by (with_reducible repeat (first | apply Kd.S_alloc | apply Kd.S_drewN | apply Kd.S_drew)); exact HO465.out)⟩; have n1_ : Aside0 (Below w.heap.size w w13) := ⟨by rw [← hq_]; exact (by repeat (first | (with_reducible first | exact HB.out | apply below_alloc | apply pw_below_drewN | apply below_drew1) | exact HB.out))⟩; clear HO465 HB hq_; have HO465 := n0_; have HB := n1_; clear n0_ n1_)); have p467 : 0 ≤ (a1 : Int) := of_decide_eq_true (by first | (with_reducible assumption) | assumption); have q467 : a1 < (l0.length : Int) := of_decide_eq_true (by first | (with_reducible assumption) | assumption); obtain ⟨ad467, A467_1, c467_1, e467, hx467_0, hx467_1, hl467_1, hi467_1⟩ := at_T40 HR0.out a1 p467 q467; cases e467; replace hx467_0 := (HB.out.cell (World.block_lt_of_cell? w _ hx467_0)).trans hx467_0; replace hx467_1 := (HB.out.cell (World.block_lt_of_cell? w _ hx467_1)).trans hx467_1; have HR467_1 := Aside0.mk hi467_1; have HC467_1 := Aside0.mk hl467_1; clear hi467_1 hl467_1; replace p467 := eq_true p467; replace q467 := eq_true q467) | ((with_reducible refine gate_callee (f := 68) rfl ?_); refine goesL_ (some 25) rfl rfl Try.func68 (by kernel_rfl) rfl #[.slice A467_1 ((rd_T40 l0 a1).f1).length c467_1, .int .i64 a2] rfl (by (try simp only [List.map_toArray, List.map_cons, List.map_nil]); first | done | rfl | (simp only [List.length_drop, List.length_take]; rfl)) ?_; (with_reducible refine (thrumref04_Turn.calls _ _ ((rd_T40 l0 a1).f1) a2 t468 t469 _ ?side1 ?side2 A9.out).mono ?_); (case side1 => repeat (first | exact (Kd.C_below HR467_1.out HB.out) | (with_reducible refine Kd.C_alloc ?_ _) | (with_reducible refine Kd.C_drewN ?_ _) | (with_reducible refine Kd.C_drew ?_))); (case side2 => exact HC467_1.out); rintro e w14 ⟨v470, rfl, ho0, hb⟩; have EZ := Aside0.mk (Kd.R_slice ho0); refine ⟨_, rfl, ?_⟩; have n0_ := Aside0.mk (Kd.S_elder' (by (with_reducible repeat (first | apply Kd.S_alloc | apply Kd.S_drewN | apply Kd.S_drew)); exact HO465.out) (Kd.R_base ho0) hb); have n1_ := Aside0.mk (Kd.R_lower ho0 (below_size (by repeat (first | (with_reducible first | exact HB.out | apply below_alloc | apply pw_below_drewN | apply below_drew1) | exact HB.out)))); have n2_ := Aside0.mk (below_step (by repeat (first | (with_reducible first | exact HB.out | apply below_alloc | apply pw_below_drewN | apply below_drew1) | exact HB.out)) hb); clear HO465; clear HB; have HO465 := n0_; have HO471 := n1_; have HB := n2_; clear n0_ n1_ n2_; (try clear hb); (try clear hb2); (try clear hk); (try clear hi); (try clear ho0); have p12 : 0 ≤ (a1 : Int) := of_decide_eq_true (by first | (with_reducible assumption) | assumption); have q12 : (a1 : Int) < ((t463.length : Int) : Int) := of_decide_eq_true (by first | (with_reducible assumption) | assumption); obtain ⟨go12, co12, eo12, gb12, gl12, cl12, HG12⟩ := Kd.S_form HO465.out (by omega); (first | cases eo12 | (injection eo12 with ea_ en_ ec_; (first | subst ea_ | (injection ea_ with ea_; subst ea_)); subst ec_; clear en_)); have GB12 := Aside0.mk gb12; have GG12 := Aside0.mk HG12; clear gb12 gl12 HG12; obtain ⟨_, ce12, hcl12, hM12, hcc12, hfr12, _, _⟩ := Kd.S_elem HO465.out z40 (a1 : Int) p12 q12; obtain ⟨ve12_1, rfl, ge12_1⟩ := k40_openM hM12; have hx12_0 : w14.cell? ⟨go12, (a1 : Int).toNat * 2, none⟩ = some (.int .i64 ((rd_T40 t463 a1).f0)) := hcc12 0 _ rfl; have hx12_1 : w14.cell? ⟨go12, (a1 : Int).toNat * 2 + 1, none⟩ = some (ve12_1) := hcc12 1 _ rfl; have hf12_0 : w14.frozen? ⟨go12, (a1 : Int).toNat * 2, none⟩ = false := hfr12 0; have hf12_1 : w14.frozen? ⟨go12, (a1 : Int).toNat * 2 + 1, none⟩ = false := hfr12 1; clear hcl12 hcc12 hfr12 hM12; replace p12 := eq_true p12; replace q12 := eq_true q12; have n_ := Aside0.mk (Kd.S_mono (ok' := (fun k_ => some k_ ≠ (v470 : Value).ownBlock)) HO465.out (fun k_ hk => hk.2)); clear HO465; have HO465 := n_; clear n_; have HX15 := Aside0.mk (show Kd.S k40 40 w14 w.heap.size (fun k_ => ((fun _ => True)) k_ ∧ ¬ ((fun k_ => some k_ = (v470 : Value).ownBlock)) k_) (.slice (some ⟨go12, 0, none⟩) t463.length co12) t463 from (by (with_reducible repeat (first | apply Kd.S_alloc | apply Kd.S_drewN | apply Kd.S_drew)); exact Kd.S_mono HO465.out (fun k_ hk => ⟨trivial, fun e_ => hk e_⟩))); obtain ⟨oki15, ce15, hcl15, hM15, hcc15, hfr15, hoki15, hH15⟩ := Kd.S_elem HX15.out z40 (a1 : Int) (of_decide_eq_true (by first | (with_reducible assumption) | assumption)) (by have h_ : (a1 : Int) < ((t463.length : Int) : Int) := of_decide_eq_true (by first | (with_reducible assumption) | assumption); first | exact h_ | (have e_ := (Kd.S_reads' HO465.out).1; omega) | simpa using h_); obtain ⟨ve15_1, rfl, ge15_1⟩ := k40_openM hM15; have HP15 := Kd.S_seg hH15 (of_decide_eq_true (by first | (with_reducible assumption) | assumption)) (by have h_ : (a1 : Int) < ((t463.length : Int) : Int) := of_decide_eq_true (by first | (with_reducible assumption) | assumption); first | exact h_ | (have e_ := (Kd.S_reads' HO465.out).1; omega) | simpa using h_) (seg := [v470]) (j := 1) (show 2 ≤ 2 from by decide) (x' := (⟨(rd_T40 t463 a1).f0, t468⟩ : S40)) (k40_mkM _ _ _ (⟨(rd_T40 t463 a1).f0, t468⟩ : S40) (Kd.R_mono (Kd.R_tight rfl (Kd.R_mono (ok' := fun k_ => ((fun _ => True)) k_ ∧ k_ ≠ go12) (Kd.R_apart' (HO471.out) (Kd.S_typed HO465.out) (by decide)) (fun k_ hk => ⟨trivial, fun e_ => (hk.2) (by rw [e_]; rfl)⟩))) (fun _ h_ => Or.inr (h_)))) (fun _ hk => hk) (fun k_ hk_ => ((Kd.R_mono (ok' := fun k_ => ((fun _ => True)) k_ ∧ k_ ≠ go12) (Kd.R_apart' (HO471.out) (Kd.S_typed HO465.out) (by decide)) (fun k_ hk => ⟨trivial, fun e_ => (hk.2) (by rw [e_]; rfl)⟩))).1 k_ hk_.symm); have hx15_1 := hcc15 1 _ rfl; (try simp only [show (k40).sz = 2 from rfl, Nat.mul_one, Nat.add_zero] at hx15_1); have hf15_1 := hfr15 1; (try simp only [show (k40).sz = 2 from rfl, Nat.mul_one, Nat.add_zero] at hf15_1); clear hcl15 hcc15 hfr15 hM15 hoki15 hH15) | ((with_reducible refine gate_store (t := 26) (p := 36) rfl ?_); refine store_event (t := 26) (p := 36) (v := ?vo_w16) (w1 := (w14.setCell ⟨go12, (a1 : Int).toNat * 2 + 1, none⟩ (v470))) ?hg ?ho ?hn ?hr ?_; (case ho => rfl); (case hg => rfl); (case hn => rfl); (case hr => (obtain ⟨AoZ, coZ, eoZ⟩ := EZ.out; rw [eoZ]; first | (go_simp; done) | (go_simp; rfl))); intro w16 hw; have hg : w14.grownBy w16 (some go12) := (by rw [hw]; exact HP15.2); have hp_ : Kd.S k40 40 w16 w.heap.size (fun _ => True) (.slice (some ⟨go12, 0, none⟩) t463.length co12) y472 := (by rw [hw, Ny472.out]; exact HP15.1); clear HP15; have n0_ := Aside0.mk (hp_); have n1_ := Aside0.mk ((by rw [hw]; exact below_set (HB.out) GB12.out : Below w.heap.size w w16)); clear HO465; clear HB; clear HO471; have HO465 := n0_; have HB := n1_; clear n0_ n1_; clear hg hw hp_))
            go_ret2
            exact ⟨_, by first | rfl | (simp [errW_none, errW_some] <;> rfl) | (simp [*, errW_none, errW_some] <;> rfl), by (with_reducible repeat (first | apply Kd.S_alloc | apply Kd.S_drewN | apply Kd.S_drew)); exact HO465.out, by repeat (first | (with_reducible first | exact HB.out | apply below_alloc | apply pw_below_drewN | apply below_drew1) | exact HB.out)⟩
          · rw [if_neg c11] at H
            exact absurd H (by simp)
        · rw [if_neg c10] at H
          have c10b0 : (t469 == 0) = false := beq_eq_false_iff_ne.mpr c10
          have c10b1 : (t469 != 0) = true := bne_iff_ne.mpr c10
          simp only [Option.some.injEq, Prod.mk.injEq] at H
          obtain ⟨rfl, rfl⟩ := H
          go_enter Try.func49, Try.ntmps49
          go_wp2_with (first | ((with_reducible refine gate_callee (f := 43) rfl ?_); refine goesL_ (some 12) rfl rfl Try.func43 (by kernel_rfl) rfl #[.slice A0 l0.length c0] rfl (by (try simp only [List.map_toArray, List.map_cons, List.map_nil]); first | done | rfl | (simp only [List.length_drop, List.length_take]; rfl)) ?_; (with_reducible refine (thrumref21_Copy.calls k _ _ l0 t463 _ ?side1 ?side2 A4.out).mono ?_); (case side1 => repeat (first | exact HR0.out | (with_reducible refine Kd.C_alloc ?_ _) | (with_reducible refine Kd.C_drewN ?_ _) | (with_reducible refine Kd.C_drew ?_))); (case side2 => exact HC0.out); rintro e w17 ⟨v464, rfl, ho0, hb⟩; refine ⟨_, rfl, ?_⟩; have n0_ := Aside0.mk (Kd.S_lower ho0 (below_size (by repeat (first | (with_reducible first | exact HB.out | apply below_alloc | apply pw_below_drewN | apply below_drew1) | exact HB.out)))); have n1_ := Aside0.mk (below_step (by repeat (first | (with_reducible first | exact HB.out | apply below_alloc | apply pw_below_drewN | apply below_drew1) | exact HB.out)) hb); clear HB; have HO465 := n0_; have HB := n1_; clear n0_ n1_; (try clear hb); (try clear hb2); (try clear hk); (try clear hi); (try clear ho0)) | ((with_reducible refine gate_callee (f := 67) rfl ?_); refine goesL_ (some 15) rfl rfl Try.func67 (by kernel_rfl) rfl #[.slice A0 l0.length c0, .int .i64 a1] rfl (by (try simp only [List.map_toArray, List.map_cons, List.map_nil]); first | done | rfl | (simp only [List.length_drop, List.length_take]; rfl)) ?_; (with_reducible refine (thrumref21_is.calls _ _ l0 a1 true _ ?side1 ?side2 A5.out).mono ?_); (case side1 => repeat (first | exact (Kd.C_below HR0.out HB.out) | (with_reducible refine Kd.C_alloc ?_ _) | (with_reducible refine Kd.C_drewN ?_ _) | (with_reducible refine Kd.C_drew ?_))); (case side2 => exact HC0.out); rintro e w' ⟨rfl, ⟨nd, rfl⟩⟩; refine ⟨_, rfl, ?_⟩; have p467 : 0 ≤ (a1 : Int) := of_decide_eq_true (by first | (with_reducible assumption) | assumption); have q467 : a1 < (l0.length : Int) := of_decide_eq_true (by first | (with_reducible assumption) | assumption); obtain ⟨ad467, A467_1, c467_1, e467, hx467_0, hx467_1, hl467_1, hi467_1⟩ := at_T40 HR0.out a1 p467 q467; cases e467; replace hx467_0 := (HB.out.cell (World.block_lt_of_cell? w _ hx467_0)).trans hx467_0; replace hx467_1 := (HB.out.cell (World.block_lt_of_cell? w _ hx467_1)).trans hx467_1; have HR467_1 := Aside0.mk hi467_1; have HC467_1 := Aside0.mk hl467_1; clear hi467_1 hl467_1; replace p467 := eq_true p467; replace q467 := eq_true q467) | ((with_reducible refine gate_callee (f := 68) rfl ?_); refine goesL_ (some 25) rfl rfl Try.func68 (by kernel_rfl) rfl #[.slice A467_1 ((rd_T40 l0 a1).f1).length c467_1, .int .i64 a2] rfl (by (try simp only [List.map_toArray, List.map_cons, List.map_nil]); first | done | rfl | (simp only [List.length_drop, List.length_take]; rfl)) ?_; (with_reducible refine (thrumref04_Turn.calls _ _ ((rd_T40 l0 a1).f1) a2 t468 t469 _ ?side1 ?side2 A9.out).mono ?_); (case side1 => repeat (first | exact (Kd.C_below HR467_1.out (by repeat (first | (with_reducible first | exact HB.out | apply below_alloc | apply pw_below_drewN | apply below_drew1) | exact HB.out))) | (with_reducible refine Kd.C_alloc ?_ _) | (with_reducible refine Kd.C_drewN ?_ _) | (with_reducible refine Kd.C_drew ?_))); (case side2 => exact HC467_1.out); rintro e w18 ⟨v470, rfl, ho0, hb⟩; refine ⟨_, rfl, ?_⟩; have n0_ := Aside0.mk (Kd.S_elder' (by (with_reducible repeat (first | apply Kd.S_alloc | apply Kd.S_drewN | apply Kd.S_drew)); exact HO465.out) (Kd.R_base ho0) hb); have n1_ := Aside0.mk (Kd.R_lower ho0 (below_size (by repeat (first | (with_reducible first | exact HB.out | apply below_alloc | apply pw_below_drewN | apply below_drew1) | exact HB.out)))); have n2_ := Aside0.mk (below_step (by repeat (first | (with_reducible first | exact HB.out | apply below_alloc | apply pw_below_drewN | apply below_drew1) | exact HB.out)) hb); clear HO465; clear HB; have HO465 := n0_; have HO471 := n1_; have HB := n2_; clear n0_ n1_ n2_; (try clear hb); (try clear hb2); (try clear hk); (try clear hi); (try clear ho0)))
          go_ret2
          exact ⟨_, by first | rfl | (simp [errW_none, errW_some] <;> rfl) | (simp [*, errW_none, errW_some] <;> rfl), by (with_reducible repeat (first | apply Kd.S_alloc | apply Kd.S_drewN | apply Kd.S_drew)); exact Kd.S_mono HO465.out (fun _ hk => trivial), by repeat (first | (with_reducible first | exact HB.out | apply below_alloc | apply pw_below_drewN | apply below_drew1) | exact HB.out)⟩
      · rw [if_neg c8] at H
        exact absurd H (by simp)
    · rw [if_neg c7] at H
      exact absurd H (by simp)
  · replace c6 := Bool.eq_false_iff.mpr c6
    subst c6
    have H1 : (some (t463, 1)) = some (r1, r2) := by rw [if_neg (show ¬ (false = true) by decide)] at H; exact H
    clear H
    have H := H1
    clear H1
    simp only [Option.some.injEq, Prod.mk.injEq] at H
    obtain ⟨rfl, rfl⟩ := H
    go_enter Try.func49, Try.ntmps49
    go_wp2_with (first | ((with_reducible refine gate_callee (f := 43) rfl ?_); refine goesL_ (some 12) rfl rfl Try.func43 (by kernel_rfl) rfl #[.slice A0 l0.length c0] rfl (by (try simp only [List.map_toArray, List.map_cons, List.map_nil]); first | done | rfl | (simp only [List.length_drop, List.length_take]; rfl)) ?_; (with_reducible refine (thrumref21_Copy.calls k _ _ l0 t463 _ ?side1 ?side2 A4.out).mono ?_); (case side1 => repeat (first | exact HR0.out | (with_reducible refine Kd.C_alloc ?_ _) | (with_reducible refine Kd.C_drewN ?_ _) | (with_reducible refine Kd.C_drew ?_))); (case side2 => exact HC0.out); rintro e w19 ⟨v464, rfl, ho0, hb⟩; refine ⟨_, rfl, ?_⟩; have n0_ := Aside0.mk (Kd.S_lower ho0 (below_size (by repeat (first | (with_reducible first | exact HB.out | apply below_alloc | apply pw_below_drewN | apply below_drew1) | exact HB.out)))); have n1_ := Aside0.mk (below_step (by repeat (first | (with_reducible first | exact HB.out | apply below_alloc | apply pw_below_drewN | apply below_drew1) | exact HB.out)) hb); clear HB; have HO465 := n0_; have HB := n1_; clear n0_ n1_; (try clear hb); (try clear hb2); (try clear hk); (try clear hi); (try clear ho0)) | ((with_reducible refine gate_callee (f := 67) rfl ?_); refine goesL_ (some 15) rfl rfl Try.func67 (by kernel_rfl) rfl #[.slice A0 l0.length c0, .int .i64 a1] rfl (by (try simp only [List.map_toArray, List.map_cons, List.map_nil]); first | done | rfl | (simp only [List.length_drop, List.length_take]; rfl)) ?_; (with_reducible refine (thrumref21_is.calls _ _ l0 a1 false _ ?side1 ?side2 A5.out).mono ?_); (case side1 => repeat (first | exact (Kd.C_below HR0.out HB.out) | (with_reducible refine Kd.C_alloc ?_ _) | (with_reducible refine Kd.C_drewN ?_ _) | (with_reducible refine Kd.C_drew ?_))); (case side2 => exact HC0.out); rintro e w' ⟨rfl, ⟨nd, rfl⟩⟩; refine ⟨_, rfl, ?_⟩))
    go_ret2
    exact ⟨_, by first | rfl | (simp [errW_none, errW_some] <;> rfl) | (simp [*, errW_none, errW_some] <;> rfl), by (with_reducible repeat (first | apply Kd.S_alloc | apply Kd.S_drewN | apply Kd.S_drew)); exact HO465.out, by repeat (first | (with_reducible first | exact HB.out | apply below_alloc | apply pw_below_drewN | apply below_drew1) | exact HB.out)⟩

end Go.Proofs.Ytlppmamhbpcfcaa.MNet
