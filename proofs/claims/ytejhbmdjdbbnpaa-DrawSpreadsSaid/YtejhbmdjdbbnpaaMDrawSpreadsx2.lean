/- Functions that the law DrawSpreads uses, each as a plain Lean function, with the proof that the Go code comes to just that; no conditions beyond those typed. -/
import Derived.Test.YtejhbmdjdbbnpaaMDrawSpreadsx0
import Derived.Test.YtejhbmdjdbbnpaaMDrawSpreadsx1
namespace Go.Proofs.Ytejhbmdjdbbnpaa.MDrawSpreads
open Go.RowKit Go.Proofs.YtejhbmdjdbbnpaaW.PrintWords Go.Proofs.YtejhbmdjdbbnpaaW.PrintLast Go.Proofs.YtejhbmdjdbbnpaaW.PrintMore
attribute [local go_sem] max2_int min2_int max_two min_two max_three min_three max_four min_four   -- for this text's walks alone
set_option linter.unusedVariables false
set_option linter.unusedSimpArgs false

/-! ### draw_Pick: function 28 -/
def draw_Pick.j0 : Nat → Int → Int → Int → List Int → Bool → Option (List Int × Int)
  | 0, _, _, _, _, _ => none
  | k + 1, x0, x1, x2, x3, x18 => if x18 = true then (some (([] : List Int), 1)) else ((draw_Order.f k x1 x2 x3).bind fun bt128 => (if bt128.2 = 0 then (if 0 ≤ x0 then (if x0 ≤ (bt128.1.length : Int) then (some ((bt128.1.take (x0 : Int).toNat), 0)) else (none)) else (none)) else (some (([] : List Int), bt128.2))))
def draw_Pick.f (k : Nat) (a0 : Int) (a1 : Int) (a2 : Int) (l3 : List Int) : Option (List Int × Int) := if a0 < 0 then (draw_Pick.j0 k a0 a1 a2 l3 true) else (draw_Pick.j0 k a0 a1 a2 l3 (decide (a0 > a1)))
theorem draw_Pick.mono_l : ∀ k, (∀ y0 y1 y2 y3 y4, LeO (draw_Pick.j0 k y0 y1 y2 y3 y4) (draw_Pick.j0 (k + 1) y0 y1 y2 y3 y4))
  | 0 => fun _ _ _ _ _ r h => by simp [draw_Pick.j0] at h
  | k + 1 => by
    have ih0 := draw_Pick.mono_l k
    · intro y0 y1 y2 y3 y4
      unfold draw_Pick.j0
      repeat' first
      | (with_reducible exact ih0 _ _ _ _ _)
      | (with_reducible exact draw_Order.mono _ _ _ _)
      | (with_reducible exact LeO.refl _)
      | (with_reducible exact LeO.none _)
      | (with_reducible refine LeO.ite ?_ ?_)
      | (with_reducible refine LeO.bind ?_ (fun _ => ?_))
      | exact ih0 _ _ _ _ _
      | exact draw_Order.mono _ _ _ _
      | exact LeO.none _
      | refine LeO.ite ?_ ?_
      | refine LeO.bind ?_ (fun _ => ?_)
theorem draw_Pick.mono : ∀ a0 a1 a2 a3 k, LeO (draw_Pick.f k a0 a1 a2 a3) (draw_Pick.f (k + 1) a0 a1 a2 a3) := by
  intro a0 a1 a2 a3 k
  have ih0 := draw_Pick.mono_l k
  unfold draw_Pick.f
  repeat' first
      | (with_reducible exact ih0 _ _ _ _ _)
      | (with_reducible exact draw_Order.mono _ _ _ _)
      | (with_reducible exact LeO.refl _)
      | (with_reducible exact LeO.none _)
      | (with_reducible refine LeO.ite ?_ ?_)
      | (with_reducible refine LeO.bind ?_ (fun _ => ?_))
      | exact ih0 _ _ _ _ _
      | exact draw_Order.mono _ _ _ _
      | exact LeO.none _
      | refine LeO.ite ?_ ?_
      | refine LeO.bind ?_ (fun _ => ?_)
set_option maxHeartbeats 8000000 in
set_option maxRecDepth 100000 in
theorem draw_Pick.calls (k : Nat) (a0 : Int) (a1 : Int) (a2 : Int) (A3 : Option Addr) (c3 : Nat) (l3 : List Int) (r1 : List Int) (r2 : Int) (w : World) (hr3 : Kd.C (Kd.int .i64) w A3 l3.length l3) (hc3 : l3.length ≤ c3) (h : draw_Pick.f k a0 a1 a2 l3 = some (r1, r2)) :
    Calls Try.prog 28 #[.int .i64 a0, .int .i64 a1, .int .u64 a2, .slice A3 l3.length c3] w fun e w' => ∃ v0_ : Value, e = .returned (.tuple #[v0_, .int .i64 r2]) ∧ Kd.R (Kd.int .i64) 3 w' w.heap.size (fun _ => True) v0_ r1 ∧ Below w.heap.size w w' := by
  have HR3 := Aside0.mk hr3
  have HC3 := Aside0.mk hc3
  clear hr3 hc3
  have HB := Aside0.mk (Below.refl w.heap.size w)
  have H : (if a0 < 0 then (draw_Pick.j0 k a0 a1 a2 l3 true) else (draw_Pick.j0 k a0 a1 a2 l3 (decide (a0 > a1)))) = some (r1, r2) := h
  clear h
  have HC5 := Aside0.mk H
  clear H
  go_enter Try.func28, Try.ntmps28
  go_upto_region 1 with (fail)
  go_cut [18] (fun v18 wc => ∃ (kq : Nat) (x18_4 : Bool), v18 = .bool x18_4 ∧ Aside0 (draw_Pick.j0 kq a0 a1 a2 l3 x18_4 = some (r1, r2)) ∧ Aside0 (kq ≤ k) ∧ Aside0 (Below w.heap.size w wc))
  case first =>
    have H := HC5.out
    clear HC5
    by_cases c6 : a0 < 0
    · rw [if_pos c6] at H
      have c6b0 : decide (a0 < 0) = true := decide_eq_true c6
      clear c6
      (first | rw [c6b0] | (simp only [i64_w, i32_w]; rw [c6b0]) | skip)
      have H' := Aside0.mk H
      clear H
      go_wp2
      go_meet
      case rel => exact ⟨_, (true), (by first | rfl | (simp; done) | (simp [*]; done)), H', ⟨by first | omega | exact Nat.le_refl _⟩, ⟨by repeat (first | (with_reducible first | exact HB.out | apply below_alloc | apply pw_below_drewN | apply below_drew1) | exact HB.out)⟩⟩
    · rw [if_neg c6] at H
      have c6b0 : decide (a0 < 0) = false := decide_eq_false c6
      clear c6
      (first | rw [c6b0] | (simp only [i64_w, i32_w]; rw [c6b0]) | skip)
      have H' := Aside0.mk H
      clear H
      go_wp2
      go_meet
      case rel => exact ⟨_, (decide (a0 > a1)), (by first | rfl | (simp; done) | (simp [*]; done)), H', ⟨by first | omega | exact Nat.le_refl _⟩, ⟨by repeat (first | (with_reducible first | exact HB.out | apply below_alloc | apply pw_below_drewN | apply below_drew1) | exact HB.out)⟩⟩
  case rest =>
    clear HC5
    try clear c2
    try clear p2
    try clear c3
    try clear c6
    try clear c6b0
    obtain ⟨kq, x18_4, rfl, HA, HJ4, HB⟩ := hcut
    cases kq with
    | zero => exact absurd HA.out (by simp [draw_Pick.j0])
    | succ kj4 =>
      have H := HA.out
      clear HA
      simp only [draw_Pick.j0] at H
      by_cases c7 : x18_4 = true
      · subst c7
        have H1 : (some (([] : List Int), 1)) = some (r1, r2) := by rw [if_pos rfl] at H; exact H
        clear H
        have H := H1
        clear H1
        simp only [Option.some.injEq, Prod.mk.injEq] at H
        obtain ⟨rfl, rfl⟩ := H
        go_wp2
        go_ret2
        exact ⟨_, by first | rfl | (simp [errW_none, errW_some] <;> rfl) | (simp [*, errW_none, errW_some] <;> rfl), by first | exact Kd.R_nil _ _ _ _ _ | exact Kd.N_nil _ _ _ _ _ | exact Kd.V_nil _ _ _ _ _ | exact Kd.Q_nil _ _ _ _ _ | exact Kd.S_nil _ _ _ _ _, by repeat (first | (with_reducible first | exact HB.out | apply below_alloc | apply pw_below_drewN | apply below_drew1) | exact HB.out)⟩
      · replace c7 := Bool.eq_false_iff.mpr c7
        subst c7
        have H1 : ((draw_Order.f kj4 a1 a2 l3).bind fun bt128 => (if bt128.2 = 0 then (if 0 ≤ a0 then (if a0 ≤ (bt128.1.length : Int) then (some ((bt128.1.take (a0 : Int).toNat), 0)) else (none)) else (none)) else (some (([] : List Int), bt128.2)))) = some (r1, r2) := by rw [if_neg (show ¬ (false = true) by decide)] at H; exact H
        clear H
        have H := H1
        clear H1
        replace H := Option.bind_eq_some_iff.mp H
        obtain ⟨⟨t128, t129⟩, A80, H⟩ := H
        replace H : (if t129 = 0 then (if 0 ≤ a0 then (if a0 ≤ (t128.length : Int) then (some ((t128.take (a0 : Int).toNat), 0)) else (none)) else (none)) else (some (([] : List Int), t129))) = some (r1, r2) := H
        have A8 := Aside0.mk A80
        clear A80
        by_cases c9 : t129 = 0
        · rw [if_pos c9] at H
          have c9b0 : (t129 == 0) = true := beq_iff_eq.mpr c9
          have c9b1 : (t129 != 0) = false := bne_eq_false_iff_eq.mpr c9
          clear c9
          by_cases c10 : 0 ≤ a0
          · rw [if_pos c10] at H
            have c10b0 := eq_true c10
            have c10b1 : decide (0 ≤ a0) = true := decide_eq_true c10
            clear c10
            by_cases c11 : a0 ≤ (t128.length : Int)
            · rw [if_pos c11] at H
              have c11b0 := eq_true c11
              have c11b1 : decide (a0 ≤ (t128.length : Int)) = true := decide_eq_true c11
              clear c11
              obtain ⟨y132, hy132⟩ : ∃ y_ : List Int, y_ = (t128.take (a0 : Int).toNat) := ⟨_, rfl⟩
              replace H : (some (y132, 0)) = some (r1, r2) := by first | (rw [hy132]; with_reducible exact H) | (have H2_ := (Option.bind_some _ _).symm.trans H; rw [hy132]; with_reducible exact H2_) | (have H2_ := (Option.bind_some _ _).symm.trans H; with_reducible exact H2_) | with_reducible exact H | (rw [hy132]; exact H) | exact H
              have Ny132 := Aside0.mk hy132
              clear hy132
              simp only [Option.some.injEq, Prod.mk.injEq] at H
              obtain ⟨rfl, rfl⟩ := H
              go_wp2_with (first | ((with_reducible refine gate_callee (f := 26) rfl ?_); refine goesL_ (some 23) rfl rfl Try.func26 (by kernel_rfl) rfl #[.int .i64 a1, .int .u64 a2, .slice A3 l3.length c3] rfl (by (try simp only [List.map_toArray, List.map_cons, List.map_nil]); first | done | rfl | (simp only [List.length_drop, List.length_take]; rfl)) ?_; (with_reducible refine (draw_Order.calls kj4 a1 a2 _ _ l3 t128 t129 _ ?side1 ?side2 A8.out).mono ?_); (case side1 => repeat (first | exact (Kd.C_below HR3.out HB.out) | (with_reducible refine Kd.C_alloc ?_ _) | (with_reducible refine Kd.C_drewN ?_ _) | (with_reducible refine Kd.C_drew ?_))); (case side2 => exact HC3.out); rintro e w12 ⟨v130, rfl, ho0, hb⟩; refine ⟨_, rfl, ?_⟩; have n0_ := Aside0.mk (Kd.R_lower ho0 (below_size (by repeat (first | (with_reducible first | exact HB.out | apply below_alloc | apply pw_below_drewN | apply below_drew1) | exact HB.out)))); have n1_ := Aside0.mk (below_step (by repeat (first | (with_reducible first | exact HB.out | apply below_alloc | apply pw_below_drewN | apply below_drew1) | exact HB.out)) hb); clear HB; have HO131 := n0_; have HB := n1_; clear n0_ n1_; (try clear hb); (try clear hb2); (try clear hk); (try clear hi); (try clear ho0); obtain ⟨Ao13, co13, eo13⟩ := Kd.R_slice HO131.out; subst eo13; have q14 : (a0 : Int) ≤ ((t128.length : Int) : Int) := of_decide_eq_true (by first | (with_reducible assumption) | assumption); obtain ⟨i014, hi014, _, hsz14, _⟩ := info_parts info3; have hcut14 := cut_to (P := Try.prog) 23 3 .i64 Try.underlying23 hi014 Ao13 t128.length co13 a0 (of_decide_eq_true (by first | (with_reducible assumption) | assumption)) q14 (Kd.R_reads' HO131.out).2.1; have hr14 := Kd.R_take (m := (a0 : Int).toNat) HO131.out (by omega); have hy14 : y132.length = (a0 : Int).toNat := (by rw [Ny132.out, List.length_take]; omega); rw [← Ny132.out] at hr14; rw [← hy14] at hr14 hcut14; clear hy14 hi014 hsz14 HO131; have HO134 := Aside0.mk hr14; clear hr14; replace q14 := eq_true q14))
              go_ret2
              exact ⟨_, by first | rfl | (simp [errW_none, errW_some] <;> rfl) | (simp [*, errW_none, errW_some] <;> rfl), by (with_reducible repeat (first | apply Kd.R_alloc | apply Kd.R_drewN | apply Kd.R_drew)); exact HO134.out, by repeat (first | (with_reducible first | exact HB.out | apply below_alloc | apply pw_below_drewN | apply below_drew1) | exact HB.out)⟩
            · rw [if_neg c11] at H
              exact absurd H (by simp)
          · rw [if_neg c10] at H
            exact absurd H (by simp)
        · rw [if_neg c9] at H
          have c9b0 : (t129 == 0) = false := beq_eq_false_iff_ne.mpr c9
          have c9b1 : (t129 != 0) = true := bne_iff_ne.mpr c9
          simp only [Option.some.injEq, Prod.mk.injEq] at H
          obtain ⟨rfl, rfl⟩ := H
          go_wp2_with (first | ((with_reducible refine gate_callee (f := 26) rfl ?_); refine goesL_ (some 23) rfl rfl Try.func26 (by kernel_rfl) rfl #[.int .i64 a1, .int .u64 a2, .slice A3 l3.length c3] rfl (by (try simp only [List.map_toArray, List.map_cons, List.map_nil]); first | done | rfl | (simp only [List.length_drop, List.length_take]; rfl)) ?_; (with_reducible refine (draw_Order.calls kj4 a1 a2 _ _ l3 t128 t129 _ ?side1 ?side2 A8.out).mono ?_); (case side1 => repeat (first | exact (Kd.C_below HR3.out HB.out) | (with_reducible refine Kd.C_alloc ?_ _) | (with_reducible refine Kd.C_drewN ?_ _) | (with_reducible refine Kd.C_drew ?_))); (case side2 => exact HC3.out); rintro e w15 ⟨v130, rfl, ho0, hb⟩; refine ⟨_, rfl, ?_⟩; have n0_ := Aside0.mk (Kd.R_lower ho0 (below_size (by repeat (first | (with_reducible first | exact HB.out | apply below_alloc | apply pw_below_drewN | apply below_drew1) | exact HB.out)))); have n1_ := Aside0.mk (below_step (by repeat (first | (with_reducible first | exact HB.out | apply below_alloc | apply pw_below_drewN | apply below_drew1) | exact HB.out)) hb); clear HB; have HO131 := n0_; have HB := n1_; clear n0_ n1_; (try clear hb); (try clear hb2); (try clear hk); (try clear hi); (try clear ho0)))
          go_ret2
          exact ⟨_, by first | rfl | (simp [errW_none, errW_some] <;> rfl) | (simp [*, errW_none, errW_some] <;> rfl), by first | exact Kd.R_nil _ _ _ _ _ | exact Kd.N_nil _ _ _ _ _ | exact Kd.V_nil _ _ _ _ _ | exact Kd.Q_nil _ _ _ _ _ | exact Kd.S_nil _ _ _ _ _, by repeat (first | (with_reducible first | exact HB.out | apply below_alloc | apply pw_below_drewN | apply below_drew1) | exact HB.out)⟩

/-! ### thrumref06_Equal: function 30 -/
def thrumref06_Equal.l0 : Nat → List Int → List Int → Int → Int → Option (Bool)
  | 0, _, _, _, _ => none
  | k + 1, x0, x1, x12, x13 => if x13 < x12 then (if 0 ≤ x13 then (if x13 < (x0.length : Int) then (if x13 < (x1.length : Int) then (if (rd x0 x13) = (rd x1 x13) then (thrumref06_Equal.l0 k x0 x1 x12 (wrap64 (x13 + 1))) else (some false)) else (none)) else (none)) else (none)) else (some true)
def thrumref06_Equal.f (k : Nat) (l0 : List Int) (l1 : List Int) : Option (Bool) := if (l0.length : Int) = (l1.length : Int) then (thrumref06_Equal.l0 k l0 l1 (l0.length : Int) 0) else (some false)
theorem thrumref06_Equal.mono_l : ∀ k, (∀ y0 y1 y2 y3, LeO (thrumref06_Equal.l0 k y0 y1 y2 y3) (thrumref06_Equal.l0 (k + 1) y0 y1 y2 y3))
  | 0 => fun _ _ _ _ r h => by simp [thrumref06_Equal.l0] at h
  | k + 1 => by
    have ih0 := thrumref06_Equal.mono_l k
    · intro y0 y1 y2 y3
      unfold thrumref06_Equal.l0
      repeat' first
      | (with_reducible exact ih0 _ _ _ _)
      | (with_reducible exact LeO.refl _)
      | (with_reducible exact LeO.none _)
      | (with_reducible refine LeO.ite ?_ ?_)
      | (with_reducible refine LeO.bind ?_ (fun _ => ?_))
      | exact ih0 _ _ _ _
      | exact LeO.none _
      | refine LeO.ite ?_ ?_
      | refine LeO.bind ?_ (fun _ => ?_)
theorem thrumref06_Equal.mono : ∀ a0 a1 k, LeO (thrumref06_Equal.f k a0 a1) (thrumref06_Equal.f (k + 1) a0 a1) := by
  intro a0 a1 k
  have ih0 := thrumref06_Equal.mono_l k
  unfold thrumref06_Equal.f
  repeat' first
      | (with_reducible exact ih0 _ _ _ _)
      | (with_reducible exact LeO.refl _)
      | (with_reducible exact LeO.none _)
      | (with_reducible refine LeO.ite ?_ ?_)
      | (with_reducible refine LeO.bind ?_ (fun _ => ?_))
      | exact ih0 _ _ _ _
      | exact LeO.none _
      | refine LeO.ite ?_ ?_
      | refine LeO.bind ?_ (fun _ => ?_)
set_option maxHeartbeats 8000000 in
set_option maxRecDepth 100000 in
theorem thrumref06_Equal.calls (k : Nat) (A0 : Option Addr) (c0 : Nat) (l0 : List Int) (A1 : Option Addr) (c1 : Nat) (l1 : List Int) (r : Bool) (w : World) (hr0 : Kd.C (Kd.int .i64) w A0 l0.length l0) (hc0 : l0.length ≤ c0) (hr1 : Kd.C (Kd.int .i64) w A1 l1.length l1) (hc1 : l1.length ≤ c1) (h : thrumref06_Equal.f k l0 l1 = some r) :
    Calls Try.prog 30 #[.slice A0 l0.length c0, .slice A1 l1.length c1] w fun e w' => e = .returned (.bool r) ∧ Drawn0 w w' := by
  have HR0 := Aside0.mk hr0
  have HC0 := Aside0.mk hc0
  clear hr0 hc0
  have HR1 := Aside0.mk hr1
  have HC1 := Aside0.mk hc1
  clear hr1 hc1
  have H : (if (l0.length : Int) = (l1.length : Int) then (thrumref06_Equal.l0 k l0 l1 (l0.length : Int) 0) else (some false)) = some r := h
  clear h
  by_cases c3 : (l0.length : Int) = (l1.length : Int)
  · rw [if_pos c3] at H
    have c3b0 : ((l0.length : Int) == (l1.length : Int)) = true := beq_iff_eq.mpr c3
    have c3b1 : ((l0.length : Int) != (l1.length : Int)) = false := bne_eq_false_iff_eq.mpr c3
    have c3b2 : (l0.length == l1.length) = true := by first | simpa using c3 | (simp at c3 ⊢; omega)
    clear c3
    have H' := Aside0.mk H
    clear H
    go_enter Try.func30, Try.ntmps30
    go_wp2
    repeat (go_quiet (fail); try go_wp2)
    go_loopg [13] k (fun kq v13 w' => ∃ (x13_1 : Int), v13 = .int .i64 x13_1 ∧ Aside0 (thrumref06_Equal.l0 kq l0 l1 (l0.length : Int) x13_1 = some r) ∧ Aside0 (kq ≤ k) ∧ Drawn0 w w')
    case atStart => exact ⟨(0), (by first | rfl | (simp; done) | (simp [*]; done)), H', ⟨Nat.le_refl _⟩, by repeat (first | exact Drawn0.refl _ | apply Drawn0.step)⟩
    case round =>
      clear H'
      try clear c1
      try clear p2
      try clear c3
      try clear c3b0
      try clear c3b1
      try clear c3b2
      obtain ⟨x13_1, rfl, HA, HK1, ⟨m1, rfl⟩⟩ := hrel
      cases gk with
      | zero => exact absurd HA.out (by simp [thrumref06_Equal.l0])
      | succ k1 =>
        have H := HA.out
        clear HA
        simp only [thrumref06_Equal.l0] at H
        by_cases c4 : x13_1 < (l0.length : Int)
        · rw [if_pos c4] at H
          have c4b0 : decide (x13_1 < (l0.length : Int)) = true := decide_eq_true c4
          clear c4
          by_cases c5 : 0 ≤ x13_1
          · rw [if_pos c5] at H
            have c5b0 : decide (0 ≤ x13_1) = true := decide_eq_true c5
            clear c5
            by_cases c6 : x13_1 < (l0.length : Int)
            · rw [if_pos c6] at H
              have c6b0 : decide (x13_1 < (l0.length : Int)) = true := decide_eq_true c6
              clear c6
              by_cases c7 : x13_1 < (l1.length : Int)
              · rw [if_pos c7] at H
                have c7b0 : decide (x13_1 < (l1.length : Int)) = true := decide_eq_true c7
                clear c7
                by_cases c8 : (rd l0 x13_1) = (rd l1 x13_1)
                · rw [if_pos c8] at H
                  have c8b0 : ((rd l0 x13_1) == (rd l1 x13_1)) = true := beq_iff_eq.mpr c8
                  have c8b1 : ((rd l0 x13_1) != (rd l1 x13_1)) = false := bne_eq_false_iff_eq.mpr c8
                  clear c8
                  have H' := Aside0.mk H
                  clear H
                  have p135 : 0 ≤ (x13_1 : Int) := of_decide_eq_true (by first | (with_reducible assumption) | assumption)
                  have q135 : x13_1 < (l0.length : Int) := of_decide_eq_true (by first | (with_reducible assumption) | assumption)
                  obtain ⟨ad135, e135, hx135_0⟩ := Kd.at_int HR0.out x13_1 p135 q135
                  cases e135
                  replace p135 := eq_true p135
                  replace q135 := eq_true q135
                  have p136 : 0 ≤ (x13_1 : Int) := of_decide_eq_true (by first | (with_reducible assumption) | assumption)
                  have q136 : x13_1 < (l1.length : Int) := of_decide_eq_true (by first | (with_reducible assumption) | assumption)
                  obtain ⟨ad136, e136, hx136_0⟩ := Kd.at_int HR1.out x13_1 p136 q136
                  cases e136
                  replace p136 := eq_true p136
                  replace q136 := eq_true q136
                  go_wp2
                  repeat (go_quiet (fail); try go_wp2)
                  go_roundg k1
                  case measure => have := HK1.out; omega
                  case rel => exact ⟨(wrap64 (x13_1 + 1)), (by first | rfl | (simp; done) | (simp [*]; done)), H', ⟨by have := HK1.out; omega⟩, by repeat (first | exact Drawn0.refl _ | apply Drawn0.step)⟩
                · rw [if_neg c8] at H
                  have c8b0 : ((rd l0 x13_1) == (rd l1 x13_1)) = false := beq_eq_false_iff_ne.mpr c8
                  have c8b1 : ((rd l0 x13_1) != (rd l1 x13_1)) = true := bne_iff_ne.mpr c8
                  obtain rfl := Option.some.inj H
                  have p135 : 0 ≤ (x13_1 : Int) := of_decide_eq_true (by first | (with_reducible assumption) | assumption)
                  have q135 : x13_1 < (l0.length : Int) := of_decide_eq_true (by first | (with_reducible assumption) | assumption)
                  obtain ⟨ad135, e135, hx135_0⟩ := Kd.at_int HR0.out x13_1 p135 q135
                  cases e135
                  replace p135 := eq_true p135
                  replace q135 := eq_true q135
                  have p136 : 0 ≤ (x13_1 : Int) := of_decide_eq_true (by first | (with_reducible assumption) | assumption)
                  have q136 : x13_1 < (l1.length : Int) := of_decide_eq_true (by first | (with_reducible assumption) | assumption)
                  obtain ⟨ad136, e136, hx136_0⟩ := Kd.at_int HR1.out x13_1 p136 q136
                  cases e136
                  replace p136 := eq_true p136
                  replace q136 := eq_true q136
                  go_wp2
                  repeat (go_quiet (fail); try go_wp2)
                  go_ret
                  exact ⟨by first | rfl | (simp; done) | (simp [*]; done), by repeat (first | exact Drawn0.refl _ | apply Drawn0.step)⟩
              · rw [if_neg c7] at H
                exact absurd H (by simp)
            · rw [if_neg c6] at H
              exact absurd H (by simp)
          · rw [if_neg c5] at H
            exact absurd H (by simp)
        · rw [if_neg c4] at H
          have c4b0 : decide (x13_1 < (l0.length : Int)) = false := decide_eq_false c4
          clear c4
          obtain rfl := Option.some.inj H
          go_wp2
          repeat (go_quiet (fail); try go_wp2)
          go_ret
          exact ⟨by first | rfl | (simp; done) | (simp [*]; done), by repeat (first | exact Drawn0.refl _ | apply Drawn0.step)⟩
  · rw [if_neg c3] at H
    have c3b0 : ((l0.length : Int) == (l1.length : Int)) = false := beq_eq_false_iff_ne.mpr c3
    have c3b1 : ((l0.length : Int) != (l1.length : Int)) = true := bne_iff_ne.mpr c3
    have c3b2 : (l0.length == l1.length) = false := by first | simpa using c3 | (simp at c3 ⊢; omega)
    obtain rfl := Option.some.inj H
    go_enter Try.func30, Try.ntmps30
    go_wp2
    repeat (go_quiet (fail); try go_wp2)
    go_ret
    exact ⟨by first | rfl | (simp; done) | (simp [*]; done), by repeat (first | exact Drawn0.refl _ | apply Drawn0.step)⟩

/-! ### thrumlaw08_DrawSpreads: function 9 -/
mutual
def thrumlaw08_DrawSpreads.j0 : Nat → Int → Int → Int → List Int → Bool → Bool → Option (Bool)
  | 0, _, _, _, _, _, _ => none
  | k + 1, x0, x1, x2, x3, x9, x29 => if x29 = true then (some x9) else (if x1 = 0 then (none) else ((draw_Pick.f k (Int.tmod (wrap64 ((Int.tmod x0 x1) + x1)) x1) x1 x2 x3).bind fun bt139 => ((draw_Pick.f k (wrap64 ((Int.tmod (wrap64 ((Int.tmod x0 x1) + x1)) x1) + 1)) x1 x2 x3).bind fun bt143 => ((draw_Pick.f k x1 x1 x2 x3).bind fun bt147 => (if bt139.2 = 0 then (if bt143.2 = 0 then (if bt147.2 = 0 then (if (bt139.1.length : Int) = (Int.tmod (wrap64 ((Int.tmod x0 x1) + x1)) x1) then (if (bt143.1.length : Int) = (wrap64 ((Int.tmod (wrap64 ((Int.tmod x0 x1) + x1)) x1) + 1)) then (thrumlaw08_DrawSpreads.j1 k (Int.tmod (wrap64 ((Int.tmod x0 x1) + x1)) x1) x9 bt139.1 bt143.1 bt147.1 ((bt147.1.length : Int) != x1)) else (thrumlaw08_DrawSpreads.j1 k (Int.tmod (wrap64 ((Int.tmod x0 x1) + x1)) x1) x9 bt139.1 bt143.1 bt147.1 true)) else (thrumlaw08_DrawSpreads.j1 k (Int.tmod (wrap64 ((Int.tmod x0 x1) + x1)) x1) x9 bt139.1 bt143.1 bt147.1 true)) else (thrumlaw08_DrawSpreads.j1 k (Int.tmod (wrap64 ((Int.tmod x0 x1) + x1)) x1) x9 bt139.1 bt143.1 bt147.1 true)) else (thrumlaw08_DrawSpreads.j1 k (Int.tmod (wrap64 ((Int.tmod x0 x1) + x1)) x1) x9 bt139.1 bt143.1 bt147.1 true)) else (thrumlaw08_DrawSpreads.j1 k (Int.tmod (wrap64 ((Int.tmod x0 x1) + x1)) x1) x9 bt139.1 bt143.1 bt147.1 true))))))
def thrumlaw08_DrawSpreads.j1 : Nat → Int → Bool → List Int → List Int → List Int → Bool → Option (Bool)
  | 0, _, _, _, _, _, _ => none
  | k + 1, x0, x9, x10, x12, x14, x91 => if x91 = true then (some false) else (if x9 = true then (if 0 ≤ x0 then (if x0 ≤ (x12.length : Int) then ((thrumref06_Equal.f k x10 (x12.take (x0 : Int).toNat)).bind fun t155 => (if t155 = true then (if 0 ≤ (wrap64 (x0 + 1)) then (if (wrap64 (x0 + 1)) ≤ (x14.length : Int) then ((thrumref06_Equal.f k x12 (x14.take ((wrap64 (x0 + 1)) : Int).toNat)).bind fun t160 => (some t160)) else (none)) else (none)) else (some false))) else (none)) else (none)) else (some false))
end
def thrumlaw08_DrawSpreads.f (k : Nat) (a0 : Int) (a1 : Int) (a2 : Int) (l3 : List Int) : Option (Bool) := (thrumlaw08_live.f k).bind fun t137 => (if t137 = true then ((thrumlaw08_few.f l3).bind fun t138 => (if t138 = true then (if a1 < 1 then (thrumlaw08_DrawSpreads.j0 k a0 a1 a2 l3 t137 true) else (thrumlaw08_DrawSpreads.j0 k a0 a1 a2 l3 t137 (decide (a1 > 300)))) else (thrumlaw08_DrawSpreads.j0 k a0 a1 a2 l3 t137 true))) else (some false))
theorem thrumlaw08_DrawSpreads.mono_l : ∀ k, (∀ y0 y1 y2 y3 y4 y5, LeO (thrumlaw08_DrawSpreads.j0 k y0 y1 y2 y3 y4 y5) (thrumlaw08_DrawSpreads.j0 (k + 1) y0 y1 y2 y3 y4 y5)) ∧ (∀ y0 y1 y2 y3 y4 y5, LeO (thrumlaw08_DrawSpreads.j1 k y0 y1 y2 y3 y4 y5) (thrumlaw08_DrawSpreads.j1 (k + 1) y0 y1 y2 y3 y4 y5))
  | 0 => ⟨fun _ _ _ _ _ _ r h => by simp [thrumlaw08_DrawSpreads.j0] at h, fun _ _ _ _ _ _ r h => by simp [thrumlaw08_DrawSpreads.j1] at h⟩
  | k + 1 => by
    obtain ⟨ih0, ih1⟩ := thrumlaw08_DrawSpreads.mono_l k
    refine ⟨?_, ?_⟩
    · intro y0 y1 y2 y3 y4 y5
      unfold thrumlaw08_DrawSpreads.j0
      repeat' first
      | (with_reducible exact ih0 _ _ _ _ _ _)
      | (with_reducible exact ih1 _ _ _ _ _ _)
      | (with_reducible exact draw_Pick.mono _ _ _ _ _)
      | (with_reducible exact thrumlaw08_live.mono _)
      | (with_reducible exact thrumref06_Equal.mono _ _ _)
      | (with_reducible exact LeO.refl _)
      | (with_reducible exact LeO.none _)
      | (with_reducible refine LeO.ite ?_ ?_)
      | (with_reducible refine LeO.bind ?_ (fun _ => ?_))
      | exact ih0 _ _ _ _ _ _
      | exact ih1 _ _ _ _ _ _
      | exact draw_Pick.mono _ _ _ _ _
      | exact thrumlaw08_live.mono _
      | exact thrumref06_Equal.mono _ _ _
      | exact LeO.none _
      | refine LeO.ite ?_ ?_
      | refine LeO.bind ?_ (fun _ => ?_)
    · intro y0 y1 y2 y3 y4 y5
      unfold thrumlaw08_DrawSpreads.j1
      repeat' first
      | (with_reducible exact ih0 _ _ _ _ _ _)
      | (with_reducible exact ih1 _ _ _ _ _ _)
      | (with_reducible exact draw_Pick.mono _ _ _ _ _)
      | (with_reducible exact thrumlaw08_live.mono _)
      | (with_reducible exact thrumref06_Equal.mono _ _ _)
      | (with_reducible exact LeO.refl _)
      | (with_reducible exact LeO.none _)
      | (with_reducible refine LeO.ite ?_ ?_)
      | (with_reducible refine LeO.bind ?_ (fun _ => ?_))
      | exact ih0 _ _ _ _ _ _
      | exact ih1 _ _ _ _ _ _
      | exact draw_Pick.mono _ _ _ _ _
      | exact thrumlaw08_live.mono _
      | exact thrumref06_Equal.mono _ _ _
      | exact LeO.none _
      | refine LeO.ite ?_ ?_
      | refine LeO.bind ?_ (fun _ => ?_)
theorem thrumlaw08_DrawSpreads.mono : ∀ a0 a1 a2 a3 k, LeO (thrumlaw08_DrawSpreads.f k a0 a1 a2 a3) (thrumlaw08_DrawSpreads.f (k + 1) a0 a1 a2 a3) := by
  intro a0 a1 a2 a3 k
  obtain ⟨ih0, ih1⟩ := thrumlaw08_DrawSpreads.mono_l k
  unfold thrumlaw08_DrawSpreads.f
  repeat' first
      | (with_reducible exact ih0 _ _ _ _ _ _)
      | (with_reducible exact ih1 _ _ _ _ _ _)
      | (with_reducible exact draw_Pick.mono _ _ _ _ _)
      | (with_reducible exact thrumlaw08_live.mono _)
      | (with_reducible exact thrumref06_Equal.mono _ _ _)
      | (with_reducible exact LeO.refl _)
      | (with_reducible exact LeO.none _)
      | (with_reducible refine LeO.ite ?_ ?_)
      | (with_reducible refine LeO.bind ?_ (fun _ => ?_))
      | exact ih0 _ _ _ _ _ _
      | exact ih1 _ _ _ _ _ _
      | exact draw_Pick.mono _ _ _ _ _
      | exact thrumlaw08_live.mono _
      | exact thrumref06_Equal.mono _ _ _
      | exact LeO.none _
      | refine LeO.ite ?_ ?_
      | refine LeO.bind ?_ (fun _ => ?_)
set_option maxHeartbeats 8000000 in
set_option maxRecDepth 100000 in
theorem thrumlaw08_DrawSpreads.calls (k : Nat) (a0 : Int) (a1 : Int) (a2 : Int) (A3 : Option Addr) (c3 : Nat) (l3 : List Int) (r : Bool) (w : World) (hr3 : Kd.C (Kd.int .i64) w A3 l3.length l3) (hc3 : l3.length ≤ c3) (h : thrumlaw08_DrawSpreads.f k a0 a1 a2 l3 = some r) :
    Calls Try.prog 9 #[.int .i64 a0, .int .i64 a1, .int .u64 a2, .slice A3 l3.length c3] w fun e w' => e = .returned (.bool r) ∧ Below w.heap.size w w' := by
  have HR3 := Aside0.mk hr3
  have HC3 := Aside0.mk hc3
  clear hr3 hc3
  have HB := Aside0.mk (Below.refl w.heap.size w)
  have H : ((thrumlaw08_live.f k).bind fun t137 => (if t137 = true then ((thrumlaw08_few.f l3).bind fun t138 => (if t138 = true then (if a1 < 1 then (thrumlaw08_DrawSpreads.j0 k a0 a1 a2 l3 t137 true) else (thrumlaw08_DrawSpreads.j0 k a0 a1 a2 l3 t137 (decide (a1 > 300)))) else (thrumlaw08_DrawSpreads.j0 k a0 a1 a2 l3 t137 true))) else (some false))) = some r := h
  clear h
  replace H := Option.bind_eq_some_iff.mp H
  obtain ⟨t137, A50, H⟩ := H
  replace H : (if t137 = true then ((thrumlaw08_few.f l3).bind fun t138 => (if t138 = true then (if a1 < 1 then (thrumlaw08_DrawSpreads.j0 k a0 a1 a2 l3 t137 true) else (thrumlaw08_DrawSpreads.j0 k a0 a1 a2 l3 t137 (decide (a1 > 300)))) else (thrumlaw08_DrawSpreads.j0 k a0 a1 a2 l3 t137 true))) else (some false)) = some r := H
  have A5 := Aside0.mk A50
  clear A50
  by_cases c6 : t137 = true
  · subst c6
    have H1 : ((thrumlaw08_few.f l3).bind fun t138 => (if t138 = true then (if a1 < 1 then (thrumlaw08_DrawSpreads.j0 k a0 a1 a2 l3 true true) else (thrumlaw08_DrawSpreads.j0 k a0 a1 a2 l3 true (decide (a1 > 300)))) else (thrumlaw08_DrawSpreads.j0 k a0 a1 a2 l3 true true))) = some r := by rw [if_pos rfl] at H; exact H
    clear H
    have H := H1
    clear H1
    have HC7 := Aside0.mk H
    clear H
    go_enter Try.func9, Try.ntmps9
    go_upto_region 4 with (first | ((with_reducible refine gate_callee (f := 15) rfl ?_); refine goesL_ (some 16) rfl rfl Try.func15 (by kernel_rfl) rfl #[] rfl (by (try simp only [List.map_toArray, List.map_cons, List.map_nil]); first | done | rfl | (simp only [List.length_drop, List.length_take]; rfl)) ?_; (with_reducible refine (thrumlaw08_live.calls k  true _ A5.out).mono ?_); rintro e w8 ⟨rfl, hb⟩; refine ⟨_, rfl, ?_⟩; have n0_ := Aside0.mk (below_step (by repeat (first | (with_reducible first | exact HB.out | apply below_alloc | apply pw_below_drewN | apply below_drew1) | exact HB.out)) hb); clear HB; have HB := n0_; clear n0_; (try clear hb); (try clear hb2); (try clear hk); (try clear hi)))
    (try simp only [Act.put, List.setIfInBounds_toArray, List.set_cons_zero, List.set_cons_succ])
    go_cut [29] (fun v29 wc => ∃ (kq : Nat) (x29_6 : Bool), v29 = .bool x29_6 ∧ Aside0 (thrumlaw08_DrawSpreads.j0 kq a0 a1 a2 l3 true x29_6 = some r) ∧ Aside0 (kq ≤ k) ∧ Aside0 (Below w.heap.size w wc))
    case first =>
      have H := HC7.out
      clear HC7
      replace H := Option.bind_eq_some_iff.mp H
      obtain ⟨t138, A90, H⟩ := H
      replace H : (if t138 = true then (if a1 < 1 then (thrumlaw08_DrawSpreads.j0 k a0 a1 a2 l3 true true) else (thrumlaw08_DrawSpreads.j0 k a0 a1 a2 l3 true (decide (a1 > 300)))) else (thrumlaw08_DrawSpreads.j0 k a0 a1 a2 l3 true true)) = some r := H
      have A9 := Aside0.mk A90
      clear A90
      by_cases c10 : t138 = true
      · subst c10
        have H1 : (if a1 < 1 then (thrumlaw08_DrawSpreads.j0 k a0 a1 a2 l3 true true) else (thrumlaw08_DrawSpreads.j0 k a0 a1 a2 l3 true (decide (a1 > 300)))) = some r := by rw [if_pos rfl] at H; exact H
        clear H
        have H := H1
        clear H1
        by_cases c11 : a1 < 1
        · rw [if_pos c11] at H
          have c11b0 : decide (a1 < 1) = true := decide_eq_true c11
          clear c11
          (first | rw [c11b0] | (simp only [i64_w, i32_w]; rw [c11b0]) | skip)
          have H' := Aside0.mk H
          clear H
          go_wp2_with (first | ((with_reducible refine gate_callee (f := 16) rfl ?_); refine goesL_ (some 20) rfl rfl Try.func16 (by kernel_rfl) rfl #[.slice A3 l3.length c3] rfl (by (try simp only [List.map_toArray, List.map_cons, List.map_nil]); first | done | rfl | (simp only [List.length_drop, List.length_take]; rfl)) ?_; (with_reducible refine (thrumlaw08_few.calls _ _ l3 true _ ?side1 ?side2 A9.out).mono ?_); (case side1 => repeat (first | exact (Kd.C_below HR3.out HB.out) | (with_reducible refine Kd.C_alloc ?_ _) | (with_reducible refine Kd.C_drewN ?_ _) | (with_reducible refine Kd.C_drew ?_))); (case side2 => exact HC3.out); rintro e w' ⟨rfl, ⟨nd, rfl⟩⟩; refine ⟨_, rfl, ?_⟩))
          go_meet
          case rel => exact ⟨_, (true), (by first | rfl | (simp; done) | (simp [*]; done)), H', ⟨by first | omega | exact Nat.le_refl _⟩, ⟨by repeat (first | (with_reducible first | exact HB.out | apply below_alloc | apply pw_below_drewN | apply below_drew1) | exact HB.out)⟩⟩
        · rw [if_neg c11] at H
          have c11b0 : decide (a1 < 1) = false := decide_eq_false c11
          clear c11
          (first | rw [c11b0] | (simp only [i64_w, i32_w]; rw [c11b0]) | skip)
          have H' := Aside0.mk H
          clear H
          go_wp2_with (first | ((with_reducible refine gate_callee (f := 16) rfl ?_); refine goesL_ (some 20) rfl rfl Try.func16 (by kernel_rfl) rfl #[.slice A3 l3.length c3] rfl (by (try simp only [List.map_toArray, List.map_cons, List.map_nil]); first | done | rfl | (simp only [List.length_drop, List.length_take]; rfl)) ?_; (with_reducible refine (thrumlaw08_few.calls _ _ l3 true _ ?side1 ?side2 A9.out).mono ?_); (case side1 => repeat (first | exact (Kd.C_below HR3.out HB.out) | (with_reducible refine Kd.C_alloc ?_ _) | (with_reducible refine Kd.C_drewN ?_ _) | (with_reducible refine Kd.C_drew ?_))); (case side2 => exact HC3.out); rintro e w' ⟨rfl, ⟨nd, rfl⟩⟩; refine ⟨_, rfl, ?_⟩))
          go_meet
          case rel => exact ⟨_, (decide (a1 > 300)), (by first | rfl | (simp; done) | (simp [*]; done)), H', ⟨by first | omega | exact Nat.le_refl _⟩, ⟨by repeat (first | (with_reducible first | exact HB.out | apply below_alloc | apply pw_below_drewN | apply below_drew1) | exact HB.out)⟩⟩
      · replace c10 := Bool.eq_false_iff.mpr c10
        subst c10
        have H1 : (thrumlaw08_DrawSpreads.j0 k a0 a1 a2 l3 true true) = some r := by rw [if_neg (show ¬ (false = true) by decide)] at H; exact H
        clear H
        have H := H1
        clear H1
        have H' := Aside0.mk H
        clear H
        go_wp2_with (first | ((with_reducible refine gate_callee (f := 16) rfl ?_); refine goesL_ (some 20) rfl rfl Try.func16 (by kernel_rfl) rfl #[.slice A3 l3.length c3] rfl (by (try simp only [List.map_toArray, List.map_cons, List.map_nil]); first | done | rfl | (simp only [List.length_drop, List.length_take]; rfl)) ?_; (with_reducible refine (thrumlaw08_few.calls _ _ l3 false _ ?side1 ?side2 A9.out).mono ?_); (case side1 => repeat (first | exact (Kd.C_below HR3.out HB.out) | (with_reducible refine Kd.C_alloc ?_ _) | (with_reducible refine Kd.C_drewN ?_ _) | (with_reducible refine Kd.C_drew ?_))); (case side2 => exact HC3.out); rintro e w' ⟨rfl, ⟨nd, rfl⟩⟩; refine ⟨_, rfl, ?_⟩))
        go_meet
        case rel => exact ⟨_, (true), (by first | rfl | (simp; done) | (simp [*]; done)), H', ⟨by first | omega | exact Nat.le_refl _⟩, ⟨by repeat (first | (with_reducible first | exact HB.out | apply below_alloc | apply pw_below_drewN | apply below_drew1) | exact HB.out)⟩⟩
    case rest =>
      clear HC7
      try clear c1
      try clear p2
      try clear c3
      try clear c6
      try clear c9
      try clear c10
      try clear c11
      try clear c11b0
      obtain ⟨kq, x29_6, rfl, HA, HJ6, HB⟩ := hcut
      cases kq with
      | zero => exact absurd HA.out (by simp [thrumlaw08_DrawSpreads.j0])
      | succ kj6 =>
        have H := HA.out
        clear HA
        simp only [thrumlaw08_DrawSpreads.j0] at H
        by_cases c12 : x29_6 = true
        · subst c12
          have H1 : (some true) = some r := by rw [if_pos rfl] at H; exact H
          clear H
          have H := H1
          clear H1
          obtain rfl := Option.some.inj H
          go_wp2
          go_ret
          exact ⟨by first | rfl | (simp [errW_none, errW_some] <;> rfl) | (simp [*, errW_none, errW_some] <;> rfl), by repeat (first | (with_reducible first | exact HB.out | apply below_alloc | apply pw_below_drewN | apply below_drew1) | exact HB.out)⟩
        · replace c12 := Bool.eq_false_iff.mpr c12
          subst c12
          have H1 : (if a1 = 0 then (none) else ((draw_Pick.f kj6 (Int.tmod (wrap64 ((Int.tmod a0 a1) + a1)) a1) a1 a2 l3).bind fun bt139 => ((draw_Pick.f kj6 (wrap64 ((Int.tmod (wrap64 ((Int.tmod a0 a1) + a1)) a1) + 1)) a1 a2 l3).bind fun bt143 => ((draw_Pick.f kj6 a1 a1 a2 l3).bind fun bt147 => (if bt139.2 = 0 then (if bt143.2 = 0 then (if bt147.2 = 0 then (if (bt139.1.length : Int) = (Int.tmod (wrap64 ((Int.tmod a0 a1) + a1)) a1) then (if (bt143.1.length : Int) = (wrap64 ((Int.tmod (wrap64 ((Int.tmod a0 a1) + a1)) a1) + 1)) then (thrumlaw08_DrawSpreads.j1 kj6 (Int.tmod (wrap64 ((Int.tmod a0 a1) + a1)) a1) true bt139.1 bt143.1 bt147.1 ((bt147.1.length : Int) != a1)) else (thrumlaw08_DrawSpreads.j1 kj6 (Int.tmod (wrap64 ((Int.tmod a0 a1) + a1)) a1) true bt139.1 bt143.1 bt147.1 true)) else (thrumlaw08_DrawSpreads.j1 kj6 (Int.tmod (wrap64 ((Int.tmod a0 a1) + a1)) a1) true bt139.1 bt143.1 bt147.1 true)) else (thrumlaw08_DrawSpreads.j1 kj6 (Int.tmod (wrap64 ((Int.tmod a0 a1) + a1)) a1) true bt139.1 bt143.1 bt147.1 true)) else (thrumlaw08_DrawSpreads.j1 kj6 (Int.tmod (wrap64 ((Int.tmod a0 a1) + a1)) a1) true bt139.1 bt143.1 bt147.1 true)) else (thrumlaw08_DrawSpreads.j1 kj6 (Int.tmod (wrap64 ((Int.tmod a0 a1) + a1)) a1) true bt139.1 bt143.1 bt147.1 true)))))) = some r := by rw [if_neg (show ¬ (false = true) by decide)] at H; exact H
          clear H
          have H := H1
          clear H1
          by_cases c13 : a1 = 0
          · rw [if_pos c13] at H
            exact absurd H (by simp)
          · rw [if_neg c13] at H
            have c13b0 : (a1 == 0) = false := beq_eq_false_iff_ne.mpr c13
            have c13b1 : (a1 != 0) = true := bne_iff_ne.mpr c13
            replace H := Option.bind_eq_some_iff.mp H
            obtain ⟨⟨t139, t140⟩, A140, H⟩ := H
            replace H : ((draw_Pick.f kj6 (wrap64 ((Int.tmod (wrap64 ((Int.tmod a0 a1) + a1)) a1) + 1)) a1 a2 l3).bind fun bt143 => ((draw_Pick.f kj6 a1 a1 a2 l3).bind fun bt147 => (if t140 = 0 then (if bt143.2 = 0 then (if bt147.2 = 0 then (if (t139.length : Int) = (Int.tmod (wrap64 ((Int.tmod a0 a1) + a1)) a1) then (if (bt143.1.length : Int) = (wrap64 ((Int.tmod (wrap64 ((Int.tmod a0 a1) + a1)) a1) + 1)) then (thrumlaw08_DrawSpreads.j1 kj6 (Int.tmod (wrap64 ((Int.tmod a0 a1) + a1)) a1) true t139 bt143.1 bt147.1 ((bt147.1.length : Int) != a1)) else (thrumlaw08_DrawSpreads.j1 kj6 (Int.tmod (wrap64 ((Int.tmod a0 a1) + a1)) a1) true t139 bt143.1 bt147.1 true)) else (thrumlaw08_DrawSpreads.j1 kj6 (Int.tmod (wrap64 ((Int.tmod a0 a1) + a1)) a1) true t139 bt143.1 bt147.1 true)) else (thrumlaw08_DrawSpreads.j1 kj6 (Int.tmod (wrap64 ((Int.tmod a0 a1) + a1)) a1) true t139 bt143.1 bt147.1 true)) else (thrumlaw08_DrawSpreads.j1 kj6 (Int.tmod (wrap64 ((Int.tmod a0 a1) + a1)) a1) true t139 bt143.1 bt147.1 true)) else (thrumlaw08_DrawSpreads.j1 kj6 (Int.tmod (wrap64 ((Int.tmod a0 a1) + a1)) a1) true t139 bt143.1 bt147.1 true)))) = some r := H
            have A14 := Aside0.mk A140
            clear A140
            replace H := Option.bind_eq_some_iff.mp H
            obtain ⟨⟨t143, t144⟩, A150, H⟩ := H
            replace H : ((draw_Pick.f kj6 a1 a1 a2 l3).bind fun bt147 => (if t140 = 0 then (if t144 = 0 then (if bt147.2 = 0 then (if (t139.length : Int) = (Int.tmod (wrap64 ((Int.tmod a0 a1) + a1)) a1) then (if (t143.length : Int) = (wrap64 ((Int.tmod (wrap64 ((Int.tmod a0 a1) + a1)) a1) + 1)) then (thrumlaw08_DrawSpreads.j1 kj6 (Int.tmod (wrap64 ((Int.tmod a0 a1) + a1)) a1) true t139 t143 bt147.1 ((bt147.1.length : Int) != a1)) else (thrumlaw08_DrawSpreads.j1 kj6 (Int.tmod (wrap64 ((Int.tmod a0 a1) + a1)) a1) true t139 t143 bt147.1 true)) else (thrumlaw08_DrawSpreads.j1 kj6 (Int.tmod (wrap64 ((Int.tmod a0 a1) + a1)) a1) true t139 t143 bt147.1 true)) else (thrumlaw08_DrawSpreads.j1 kj6 (Int.tmod (wrap64 ((Int.tmod a0 a1) + a1)) a1) true t139 t143 bt147.1 true)) else (thrumlaw08_DrawSpreads.j1 kj6 (Int.tmod (wrap64 ((Int.tmod a0 a1) + a1)) a1) true t139 t143 bt147.1 true)) else (thrumlaw08_DrawSpreads.j1 kj6 (Int.tmod (wrap64 ((Int.tmod a0 a1) + a1)) a1) true t139 t143 bt147.1 true))) = some r := H
            have A15 := Aside0.mk A150
            clear A150
            replace H := Option.bind_eq_some_iff.mp H
            obtain ⟨⟨t147, t148⟩, A160, H⟩ := H
            replace H : (if t140 = 0 then (if t144 = 0 then (if t148 = 0 then (if (t139.length : Int) = (Int.tmod (wrap64 ((Int.tmod a0 a1) + a1)) a1) then (if (t143.length : Int) = (wrap64 ((Int.tmod (wrap64 ((Int.tmod a0 a1) + a1)) a1) + 1)) then (thrumlaw08_DrawSpreads.j1 kj6 (Int.tmod (wrap64 ((Int.tmod a0 a1) + a1)) a1) true t139 t143 t147 ((t147.length : Int) != a1)) else (thrumlaw08_DrawSpreads.j1 kj6 (Int.tmod (wrap64 ((Int.tmod a0 a1) + a1)) a1) true t139 t143 t147 true)) else (thrumlaw08_DrawSpreads.j1 kj6 (Int.tmod (wrap64 ((Int.tmod a0 a1) + a1)) a1) true t139 t143 t147 true)) else (thrumlaw08_DrawSpreads.j1 kj6 (Int.tmod (wrap64 ((Int.tmod a0 a1) + a1)) a1) true t139 t143 t147 true)) else (thrumlaw08_DrawSpreads.j1 kj6 (Int.tmod (wrap64 ((Int.tmod a0 a1) + a1)) a1) true t139 t143 t147 true)) else (thrumlaw08_DrawSpreads.j1 kj6 (Int.tmod (wrap64 ((Int.tmod a0 a1) + a1)) a1) true t139 t143 t147 true)) = some r := H
            have A16 := Aside0.mk A160
            clear A160
            have HC17 := Aside0.mk H
            clear H
            go_upto_region 10 with (first | ((with_reducible refine gate_callee (f := 28) rfl ?_); refine goesL_ (some 43) rfl rfl Try.func28 (by kernel_rfl) rfl #[.int .i64 (Int.tmod (wrap64 ((Int.tmod a0 a1) + a1)) a1), .int .i64 a1, .int .u64 a2, .slice A3 l3.length c3] rfl (by (try simp only [List.map_toArray, List.map_cons, List.map_nil]); first | done | rfl | (simp only [List.length_drop, List.length_take]; rfl)) ?_; (with_reducible refine (draw_Pick.calls kj6 (Int.tmod (wrap64 ((Int.tmod a0 a1) + a1)) a1) a1 a2 _ _ l3 t139 t140 _ ?side1 ?side2 A14.out).mono ?_); (case side1 => repeat (first | exact (Kd.C_below HR3.out HB.out) | (with_reducible refine Kd.C_alloc ?_ _) | (with_reducible refine Kd.C_drewN ?_ _) | (with_reducible refine Kd.C_drew ?_))); (case side2 => exact HC3.out); rintro e w18 ⟨v141, rfl, ho0, hb⟩; refine ⟨_, rfl, ?_⟩; have n0_ := Aside0.mk (Kd.R_lower ho0 (below_size (by repeat (first | (with_reducible first | exact HB.out | apply below_alloc | apply pw_below_drewN | apply below_drew1) | exact HB.out)))); have n1_ := Aside0.mk (below_step (by repeat (first | (with_reducible first | exact HB.out | apply below_alloc | apply pw_below_drewN | apply below_drew1) | exact HB.out)) hb); clear HB; have HO142 := n0_; have HB := n1_; clear n0_ n1_; (try clear hb); (try clear hb2); (try clear hk); (try clear hi); (try clear ho0)) | ((with_reducible refine gate_callee (f := 28) rfl ?_); refine goesL_ (some 52) rfl rfl Try.func28 (by kernel_rfl) rfl #[.int .i64 (wrap64 ((Int.tmod (wrap64 ((Int.tmod a0 a1) + a1)) a1) + 1)), .int .i64 a1, .int .u64 a2, .slice A3 l3.length c3] rfl (by (try simp only [List.map_toArray, List.map_cons, List.map_nil]); first | done | rfl | (simp only [List.length_drop, List.length_take]; rfl)) ?_; (with_reducible refine (draw_Pick.calls kj6 (wrap64 ((Int.tmod (wrap64 ((Int.tmod a0 a1) + a1)) a1) + 1)) a1 a2 _ _ l3 t143 t144 _ ?side1 ?side2 A15.out).mono ?_); (case side1 => repeat (first | exact (Kd.C_below HR3.out HB.out) | (with_reducible refine Kd.C_alloc ?_ _) | (with_reducible refine Kd.C_drewN ?_ _) | (with_reducible refine Kd.C_drew ?_))); (case side2 => exact HC3.out); rintro e w19 ⟨v145, rfl, ho0, hb⟩; refine ⟨_, rfl, ?_⟩; have n0_ := Aside0.mk (Kd.R_elder' (by (with_reducible repeat (first | apply Kd.R_alloc | apply Kd.R_drewN | apply Kd.R_drew)); exact HO142.out) (Kd.R_base ho0) hb); have n1_ := Aside0.mk (Kd.R_lower (Kd.R_new' ho0 (Kd.R_lt (by (with_reducible repeat (first | apply Kd.R_alloc | apply Kd.R_drewN | apply Kd.R_drew)); exact HO142.out))) (below_size (by repeat (first | (with_reducible first | exact HB.out | apply below_alloc | apply pw_below_drewN | apply below_drew1) | exact HB.out)))); have n2_ := Aside0.mk (below_step (by repeat (first | (with_reducible first | exact HB.out | apply below_alloc | apply pw_below_drewN | apply below_drew1) | exact HB.out)) hb); clear HO142; clear HB; have HO142 := n0_; have HO146 := n1_; have HB := n2_; clear n0_ n1_ n2_; (try clear hb); (try clear hb2); (try clear hk); (try clear hi); (try clear ho0)) | ((with_reducible refine gate_callee (f := 28) rfl ?_); refine goesL_ (some 60) rfl rfl Try.func28 (by kernel_rfl) rfl #[.int .i64 a1, .int .i64 a1, .int .u64 a2, .slice A3 l3.length c3] rfl (by (try simp only [List.map_toArray, List.map_cons, List.map_nil]); first | done | rfl | (simp only [List.length_drop, List.length_take]; rfl)) ?_; (with_reducible refine (draw_Pick.calls kj6 a1 a1 a2 _ _ l3 t147 t148 _ ?side1 ?side2 A16.out).mono ?_); (case side1 => repeat (first | exact (Kd.C_below HR3.out HB.out) | (with_reducible refine Kd.C_alloc ?_ _) | (with_reducible refine Kd.C_drewN ?_ _) | (with_reducible refine Kd.C_drew ?_))); (case side2 => exact HC3.out); rintro e w20 ⟨v149, rfl, ho0, hb⟩; refine ⟨_, rfl, ?_⟩; have n0_ := Aside0.mk (Kd.R_elder' (by (with_reducible repeat (first | apply Kd.R_alloc | apply Kd.R_drewN | apply Kd.R_drew)); exact HO142.out) (Kd.R_base ho0) hb); have n1_ := Aside0.mk (Kd.R_elder' (by (with_reducible repeat (first | apply Kd.R_alloc | apply Kd.R_drewN | apply Kd.R_drew)); exact HO146.out) (Kd.R_base ho0) hb); have n2_ := Aside0.mk (Kd.R_lower (Kd.R_new' (Kd.R_new' ho0 (Kd.R_lt (by (with_reducible repeat (first | apply Kd.R_alloc | apply Kd.R_drewN | apply Kd.R_drew)); exact HO142.out))) (Kd.R_lt (by (with_reducible repeat (first | apply Kd.R_alloc | apply Kd.R_drewN | apply Kd.R_drew)); exact HO146.out))) (below_size (by repeat (first | (with_reducible first | exact HB.out | apply below_alloc | apply pw_below_drewN | apply below_drew1) | exact HB.out)))); have n3_ := Aside0.mk (below_step (by repeat (first | (with_reducible first | exact HB.out | apply below_alloc | apply pw_below_drewN | apply below_drew1) | exact HB.out)) hb); clear HO142; clear HO146; clear HB; have HO142 := n0_; have HO146 := n1_; have HO150 := n2_; have HB := n3_; clear n0_ n1_ n2_ n3_; (try clear hb); (try clear hb2); (try clear hk); (try clear hi); (try clear ho0)))
            (try simp only [Act.put, List.setIfInBounds_toArray, List.set_cons_zero, List.set_cons_succ])
            go_cut [91] (fun v91 wc => ∃ (kq : Nat) (x91_16 : Bool), v91 = .bool x91_16 ∧ Aside0 (thrumlaw08_DrawSpreads.j1 kq (Int.tmod (wrap64 ((Int.tmod a0 a1) + a1)) a1) true t139 t143 t147 x91_16 = some r) ∧ Aside0 (kq ≤ kj6) ∧ Aside0 (Kd.R (Kd.int .i64) 3 wc w.heap.size (fun k_ => some k_ ≠ (v145 : Value).ownBlock ∧ some k_ ≠ (v149 : Value).ownBlock) v141 t139) ∧ Aside0 (Kd.R (Kd.int .i64) 3 wc w.heap.size (fun k_ => some k_ ≠ (v141 : Value).ownBlock ∧ some k_ ≠ (v149 : Value).ownBlock) v145 t143) ∧ Aside0 (Kd.R (Kd.int .i64) 3 wc w.heap.size (fun k_ => some k_ ≠ (v141 : Value).ownBlock ∧ some k_ ≠ (v145 : Value).ownBlock) v149 t147) ∧ Aside0 (Below w.heap.size w wc))
            case first =>
              have H := HC17.out
              clear HC17
              by_cases c21 : t140 = 0
              · rw [if_pos c21] at H
                have c21b0 : (t140 == 0) = true := beq_iff_eq.mpr c21
                have c21b1 : (t140 != 0) = false := bne_eq_false_iff_eq.mpr c21
                clear c21
                (first | rw [c21b0] | (simp only [i64_w, i32_w]; rw [c21b0]) | skip)
                by_cases c22 : t144 = 0
                · rw [if_pos c22] at H
                  have c22b0 : (t144 == 0) = true := beq_iff_eq.mpr c22
                  have c22b1 : (t144 != 0) = false := bne_eq_false_iff_eq.mpr c22
                  clear c22
                  by_cases c23 : t148 = 0
                  · rw [if_pos c23] at H
                    have c23b0 : (t148 == 0) = true := beq_iff_eq.mpr c23
                    have c23b1 : (t148 != 0) = false := bne_eq_false_iff_eq.mpr c23
                    clear c23
                    by_cases c24 : (t139.length : Int) = (Int.tmod (wrap64 ((Int.tmod a0 a1) + a1)) a1)
                    · rw [if_pos c24] at H
                      have c24b0 : ((t139.length : Int) == (Int.tmod (wrap64 ((Int.tmod a0 a1) + a1)) a1)) = true := beq_iff_eq.mpr c24
                      have c24b1 : ((t139.length : Int) != (Int.tmod (wrap64 ((Int.tmod a0 a1) + a1)) a1)) = false := bne_eq_false_iff_eq.mpr c24
                      clear c24
                      by_cases c25 : (t143.length : Int) = (wrap64 ((Int.tmod (wrap64 ((Int.tmod a0 a1) + a1)) a1) + 1))
                      · rw [if_pos c25] at H
                        have c25b0 : ((t143.length : Int) == (wrap64 ((Int.tmod (wrap64 ((Int.tmod a0 a1) + a1)) a1) + 1))) = true := beq_iff_eq.mpr c25
                        have c25b1 : ((t143.length : Int) != (wrap64 ((Int.tmod (wrap64 ((Int.tmod a0 a1) + a1)) a1) + 1))) = false := bne_eq_false_iff_eq.mpr c25
                        clear c25
                        have H' := Aside0.mk H
                        clear H
                        obtain ⟨Ao26, co26, eo26⟩ := Kd.R_slice HO142.out
                        subst eo26
                        obtain ⟨Ao27, co27, eo27⟩ := Kd.R_slice HO146.out
                        subst eo27
                        obtain ⟨Ao28, co28, eo28⟩ := Kd.R_slice HO150.out
                        subst eo28
                        go_wp2
                        go_meet
                        case rel => exact ⟨_, (((t147.length : Int) != a1)), (by first | rfl | (simp; done) | (simp [*]; done)), H', ⟨by have := HJ6.out; first | omega | exact Nat.le_refl _⟩, ⟨by (with_reducible repeat (first | apply Kd.R_alloc | apply Kd.R_drewN | apply Kd.R_drew)); exact Kd.R_mono HO142.out (fun _ hk => ⟨hk.1.2, hk.2⟩)⟩, ⟨by (with_reducible repeat (first | apply Kd.R_alloc | apply Kd.R_drewN | apply Kd.R_drew)); exact Kd.R_mono HO146.out (fun _ hk => ⟨hk.1.2, hk.2⟩)⟩, ⟨by (with_reducible repeat (first | apply Kd.R_alloc | apply Kd.R_drewN | apply Kd.R_drew)); exact Kd.R_mono HO150.out (fun _ hk => ⟨hk.1.2, hk.2⟩)⟩, ⟨by repeat (first | (with_reducible first | exact HB.out | apply below_alloc | apply pw_below_drewN | apply below_drew1) | exact HB.out)⟩⟩
                      · rw [if_neg c25] at H
                        have c25b0 : ((t143.length : Int) == (wrap64 ((Int.tmod (wrap64 ((Int.tmod a0 a1) + a1)) a1) + 1))) = false := beq_eq_false_iff_ne.mpr c25
                        have c25b1 : ((t143.length : Int) != (wrap64 ((Int.tmod (wrap64 ((Int.tmod a0 a1) + a1)) a1) + 1))) = true := bne_iff_ne.mpr c25
                        have H' := Aside0.mk H
                        clear H
                        obtain ⟨Ao29, co29, eo29⟩ := Kd.R_slice HO142.out
                        subst eo29
                        obtain ⟨Ao30, co30, eo30⟩ := Kd.R_slice HO146.out
                        subst eo30
                        go_wp2
                        go_meet
                        case rel => exact ⟨_, (true), (by first | rfl | (simp; done) | (simp [*]; done)), H', ⟨by have := HJ6.out; first | omega | exact Nat.le_refl _⟩, ⟨by (with_reducible repeat (first | apply Kd.R_alloc | apply Kd.R_drewN | apply Kd.R_drew)); exact Kd.R_mono HO142.out (fun _ hk => ⟨hk.1.2, hk.2⟩)⟩, ⟨by (with_reducible repeat (first | apply Kd.R_alloc | apply Kd.R_drewN | apply Kd.R_drew)); exact Kd.R_mono HO146.out (fun _ hk => ⟨hk.1.2, hk.2⟩)⟩, ⟨by (with_reducible repeat (first | apply Kd.R_alloc | apply Kd.R_drewN | apply Kd.R_drew)); exact Kd.R_mono HO150.out (fun _ hk => ⟨hk.1.2, hk.2⟩)⟩, ⟨by repeat (first | (with_reducible first | exact HB.out | apply below_alloc | apply pw_below_drewN | apply below_drew1) | exact HB.out)⟩⟩
                    · rw [if_neg c24] at H
                      have c24b0 : ((t139.length : Int) == (Int.tmod (wrap64 ((Int.tmod a0 a1) + a1)) a1)) = false := beq_eq_false_iff_ne.mpr c24
                      have c24b1 : ((t139.length : Int) != (Int.tmod (wrap64 ((Int.tmod a0 a1) + a1)) a1)) = true := bne_iff_ne.mpr c24
                      have H' := Aside0.mk H
                      clear H
                      obtain ⟨Ao31, co31, eo31⟩ := Kd.R_slice HO142.out
                      subst eo31
                      go_wp2
                      go_meet
                      case rel => exact ⟨_, (true), (by first | rfl | (simp; done) | (simp [*]; done)), H', ⟨by have := HJ6.out; first | omega | exact Nat.le_refl _⟩, ⟨by (with_reducible repeat (first | apply Kd.R_alloc | apply Kd.R_drewN | apply Kd.R_drew)); exact Kd.R_mono HO142.out (fun _ hk => ⟨hk.1.2, hk.2⟩)⟩, ⟨by (with_reducible repeat (first | apply Kd.R_alloc | apply Kd.R_drewN | apply Kd.R_drew)); exact Kd.R_mono HO146.out (fun _ hk => ⟨hk.1.2, hk.2⟩)⟩, ⟨by (with_reducible repeat (first | apply Kd.R_alloc | apply Kd.R_drewN | apply Kd.R_drew)); exact Kd.R_mono HO150.out (fun _ hk => ⟨hk.1.2, hk.2⟩)⟩, ⟨by repeat (first | (with_reducible first | exact HB.out | apply below_alloc | apply pw_below_drewN | apply below_drew1) | exact HB.out)⟩⟩
                  · rw [if_neg c23] at H
                    have c23b0 : (t148 == 0) = false := beq_eq_false_iff_ne.mpr c23
                    have c23b1 : (t148 != 0) = true := bne_iff_ne.mpr c23
                    have H' := Aside0.mk H
                    clear H
                    go_wp2
                    go_meet
                    case rel => exact ⟨_, (true), (by first | rfl | (simp; done) | (simp [*]; done)), H', ⟨by have := HJ6.out; first | omega | exact Nat.le_refl _⟩, ⟨by (with_reducible repeat (first | apply Kd.R_alloc | apply Kd.R_drewN | apply Kd.R_drew)); exact Kd.R_mono HO142.out (fun _ hk => ⟨hk.1.2, hk.2⟩)⟩, ⟨by (with_reducible repeat (first | apply Kd.R_alloc | apply Kd.R_drewN | apply Kd.R_drew)); exact Kd.R_mono HO146.out (fun _ hk => ⟨hk.1.2, hk.2⟩)⟩, ⟨by (with_reducible repeat (first | apply Kd.R_alloc | apply Kd.R_drewN | apply Kd.R_drew)); exact Kd.R_mono HO150.out (fun _ hk => ⟨hk.1.2, hk.2⟩)⟩, ⟨by repeat (first | (with_reducible first | exact HB.out | apply below_alloc | apply pw_below_drewN | apply below_drew1) | exact HB.out)⟩⟩
                · rw [if_neg c22] at H
                  have c22b0 : (t144 == 0) = false := beq_eq_false_iff_ne.mpr c22
                  have c22b1 : (t144 != 0) = true := bne_iff_ne.mpr c22
                  have H' := Aside0.mk H
                  clear H
                  go_wp2
                  go_meet
                  case rel => exact ⟨_, (true), (by first | rfl | (simp; done) | (simp [*]; done)), H', ⟨by have := HJ6.out; first | omega | exact Nat.le_refl _⟩, ⟨by (with_reducible repeat (first | apply Kd.R_alloc | apply Kd.R_drewN | apply Kd.R_drew)); exact Kd.R_mono HO142.out (fun _ hk => ⟨hk.1.2, hk.2⟩)⟩, ⟨by (with_reducible repeat (first | apply Kd.R_alloc | apply Kd.R_drewN | apply Kd.R_drew)); exact Kd.R_mono HO146.out (fun _ hk => ⟨hk.1.2, hk.2⟩)⟩, ⟨by (with_reducible repeat (first | apply Kd.R_alloc | apply Kd.R_drewN | apply Kd.R_drew)); exact Kd.R_mono HO150.out (fun _ hk => ⟨hk.1.2, hk.2⟩)⟩, ⟨by repeat (first | (with_reducible first | exact HB.out | apply below_alloc | apply pw_below_drewN | apply below_drew1) | exact HB.out)⟩⟩
              · rw [if_neg c21] at H
                have c21b0 : (t140 == 0) = false := beq_eq_false_iff_ne.mpr c21
                have c21b1 : (t140 != 0) = true := bne_iff_ne.mpr c21
                (first | rw [c21b0] | (simp only [i64_w, i32_w]; rw [c21b0]) | skip)
                have H' := Aside0.mk H
                clear H
                go_wp2
                go_meet
                case rel => exact ⟨_, (true), (by first | rfl | (simp; done) | (simp [*]; done)), H', ⟨by have := HJ6.out; first | omega | exact Nat.le_refl _⟩, ⟨by (with_reducible repeat (first | apply Kd.R_alloc | apply Kd.R_drewN | apply Kd.R_drew)); exact Kd.R_mono HO142.out (fun _ hk => ⟨hk.1.2, hk.2⟩)⟩, ⟨by (with_reducible repeat (first | apply Kd.R_alloc | apply Kd.R_drewN | apply Kd.R_drew)); exact Kd.R_mono HO146.out (fun _ hk => ⟨hk.1.2, hk.2⟩)⟩, ⟨by (with_reducible repeat (first | apply Kd.R_alloc | apply Kd.R_drewN | apply Kd.R_drew)); exact Kd.R_mono HO150.out (fun _ hk => ⟨hk.1.2, hk.2⟩)⟩, ⟨by repeat (first | (with_reducible first | exact HB.out | apply below_alloc | apply pw_below_drewN | apply below_drew1) | exact HB.out)⟩⟩
            case rest =>
              clear HC17
              try clear c1
              try clear c2
              try clear p2
              try clear c3
              try clear c6
              try clear p6
              try clear c9
              try clear c10
              try clear c11
              try clear c11b0
              try clear c12
              try clear c13
              try clear c13b0
              try clear c13b1
              try clear c15
              try clear c16
              try clear c21
              try clear c21b0
              try clear c21b1
              try clear c22
              try clear c22b0
              try clear c22b1
              try clear c23
              try clear c23b0
              try clear c23b1
              try clear c24
              try clear c24b0
              try clear c24b1
              try clear c25
              try clear c25b0
              try clear c25b1
              try clear c28
              try clear p2
              obtain ⟨kq, x91_16, rfl, HA, HJ16, HO_10, HO_12, HO_14, HB⟩ := hcut
              cases kq with
              | zero => exact absurd HA.out (by simp [thrumlaw08_DrawSpreads.j1])
              | succ kj16 =>
                have H := HA.out
                clear HA
                simp only [thrumlaw08_DrawSpreads.j1] at H
                by_cases c32 : x91_16 = true
                · subst c32
                  have H1 : (some false) = some r := by rw [if_pos rfl] at H; exact H
                  clear H
                  have H := H1
                  clear H1
                  obtain rfl := Option.some.inj H
                  go_wp2
                  go_ret
                  exact ⟨by first | rfl | (simp [errW_none, errW_some] <;> rfl) | (simp [*, errW_none, errW_some] <;> rfl), by repeat (first | (with_reducible first | exact HB.out | apply below_alloc | apply pw_below_drewN | apply below_drew1) | exact HB.out)⟩
                · replace c32 := Bool.eq_false_iff.mpr c32
                  subst c32
                  have H1 : (if true = true then (if 0 ≤ (Int.tmod (wrap64 ((Int.tmod a0 a1) + a1)) a1) then (if (Int.tmod (wrap64 ((Int.tmod a0 a1) + a1)) a1) ≤ (t143.length : Int) then ((thrumref06_Equal.f kj16 t139 (t143.take ((Int.tmod (wrap64 ((Int.tmod a0 a1) + a1)) a1) : Int).toNat)).bind fun t155 => (if t155 = true then (if 0 ≤ (wrap64 ((Int.tmod (wrap64 ((Int.tmod a0 a1) + a1)) a1) + 1)) then (if (wrap64 ((Int.tmod (wrap64 ((Int.tmod a0 a1) + a1)) a1) + 1)) ≤ (t147.length : Int) then ((thrumref06_Equal.f kj16 t143 (t147.take ((wrap64 ((Int.tmod (wrap64 ((Int.tmod a0 a1) + a1)) a1) + 1)) : Int).toNat)).bind fun t160 => (some t160)) else (none)) else (none)) else (some false))) else (none)) else (none)) else (some false)) = some r := by rw [if_neg (show ¬ (false = true) by decide)] at H; exact H
                  clear H
                  have H := H1
                  clear H1
                  by_cases c33 : true = true
                  · clear c33
                    have H1 : (if 0 ≤ (Int.tmod (wrap64 ((Int.tmod a0 a1) + a1)) a1) then (if (Int.tmod (wrap64 ((Int.tmod a0 a1) + a1)) a1) ≤ (t143.length : Int) then ((thrumref06_Equal.f kj16 t139 (t143.take ((Int.tmod (wrap64 ((Int.tmod a0 a1) + a1)) a1) : Int).toNat)).bind fun t155 => (if t155 = true then (if 0 ≤ (wrap64 ((Int.tmod (wrap64 ((Int.tmod a0 a1) + a1)) a1) + 1)) then (if (wrap64 ((Int.tmod (wrap64 ((Int.tmod a0 a1) + a1)) a1) + 1)) ≤ (t147.length : Int) then ((thrumref06_Equal.f kj16 t143 (t147.take ((wrap64 ((Int.tmod (wrap64 ((Int.tmod a0 a1) + a1)) a1) + 1)) : Int).toNat)).bind fun t160 => (some t160)) else (none)) else (none)) else (some false))) else (none)) else (none)) = some r := by rw [if_pos rfl] at H; exact H
                    clear H
                    have H := H1
                    clear H1
                    obtain ⟨ji34, hji34⟩ : ∃ j_ : Int, (Int.tmod (wrap64 ((Int.tmod a0 a1) + a1)) a1) = j_ := ⟨_, rfl⟩
                    replace H : (if 0 ≤ (ji34) then (if (ji34) ≤ (t143.length : Int) then ((thrumref06_Equal.f kj16 t139 (t143.take ((ji34) : Int).toNat)).bind fun t155 => (if t155 = true then (if 0 ≤ (wrap64 ((ji34) + 1)) then (if (wrap64 ((ji34) + 1)) ≤ (t147.length : Int) then ((thrumref06_Equal.f kj16 t143 (t147.take ((wrap64 ((ji34) + 1)) : Int).toNat)).bind fun t160 => (some t160)) else (none)) else (none)) else (some false))) else (none)) else (none)) = some r := by first | (rw [hji34] at H; exact H) | (simp only [hji34] at H ⊢; exact H)
                    by_cases c35 : 0 ≤ (ji34)
                    · rw [if_pos c35] at H
                      have c35b0 := eq_true c35
                      have c35b1 : decide (0 ≤ (ji34)) = true := decide_eq_true c35
                      clear c35
                      by_cases c36 : (ji34) ≤ (t143.length : Int)
                      · rw [if_pos c36] at H
                        have c36b0 := eq_true c36
                        have c36b1 : decide ((ji34) ≤ (t143.length : Int)) = true := decide_eq_true c36
                        clear c36
                        obtain ⟨y151, hy151⟩ : ∃ y_ : List Int, y_ = (t143.take ((ji34) : Int).toNat) := ⟨_, rfl⟩
                        replace H : ((thrumref06_Equal.f kj16 t139 y151).bind fun t155 => (if t155 = true then (if 0 ≤ (wrap64 ((ji34) + 1)) then (if (wrap64 ((ji34) + 1)) ≤ (t147.length : Int) then ((thrumref06_Equal.f kj16 t143 (t147.take ((wrap64 ((ji34) + 1)) : Int).toNat)).bind fun t160 => (some t160)) else (none)) else (none)) else (some false))) = some r := by first | (rw [hy151]; with_reducible exact H) | (have H2_ := (Option.bind_some _ _).symm.trans H; rw [hy151]; with_reducible exact H2_) | (have H2_ := (Option.bind_some _ _).symm.trans H; with_reducible exact H2_) | with_reducible exact H | (rw [hy151]; exact H) | exact H
                        have Ny151 := Aside0.mk hy151
                        clear hy151
                        replace H := Option.bind_eq_some_iff.mp H
                        obtain ⟨t155, A370, H⟩ := H
                        replace H : (if t155 = true then (if 0 ≤ (wrap64 ((ji34) + 1)) then (if (wrap64 ((ji34) + 1)) ≤ (t147.length : Int) then ((thrumref06_Equal.f kj16 t143 (t147.take ((wrap64 ((ji34) + 1)) : Int).toNat)).bind fun t160 => (some t160)) else (none)) else (none)) else (some false)) = some r := H
                        have A37 := Aside0.mk A370
                        clear A370
                        by_cases c38 : t155 = true
                        · subst c38
                          have H1 : (if 0 ≤ (wrap64 ((ji34) + 1)) then (if (wrap64 ((ji34) + 1)) ≤ (t147.length : Int) then ((thrumref06_Equal.f kj16 t143 (t147.take ((wrap64 ((ji34) + 1)) : Int).toNat)).bind fun t160 => (some t160)) else (none)) else (none)) = some r := by rw [if_pos rfl] at H; exact H
                          clear H
                          have H := H1
                          clear H1
                          obtain ⟨ji39, hji39⟩ : ∃ j_ : Int, (wrap64 ((ji34) + 1)) = j_ := ⟨_, rfl⟩
                          replace H : (if 0 ≤ (ji39) then (if (ji39) ≤ (t147.length : Int) then ((thrumref06_Equal.f kj16 t143 (t147.take ((ji39) : Int).toNat)).bind fun t160 => (some t160)) else (none)) else (none)) = some r := by first | (rw [hji39] at H; exact H) | (simp only [hji39] at H ⊢; exact H)
                          (try rw [hji39] at A37)
                          have hji39w : (IntKind.i64.wrap ((ji34) + 1)) = ji39 := (i64_w _).trans hji39
                          by_cases c40 : 0 ≤ (ji39)
                          · rw [if_pos c40] at H
                            have c40b0 := eq_true c40
                            have c40b1 : decide (0 ≤ (ji39)) = true := decide_eq_true c40
                            clear c40
                            by_cases c41 : (ji39) ≤ (t147.length : Int)
                            · rw [if_pos c41] at H
                              have c41b0 := eq_true c41
                              have c41b1 : decide ((ji39) ≤ (t147.length : Int)) = true := decide_eq_true c41
                              clear c41
                              obtain ⟨y156, hy156⟩ : ∃ y_ : List Int, y_ = (t147.take ((ji39) : Int).toNat) := ⟨_, rfl⟩
                              replace H : ((thrumref06_Equal.f kj16 t143 y156).bind fun t160 => (some t160)) = some r := by first | (rw [hy156]; with_reducible exact H) | (have H2_ := (Option.bind_some _ _).symm.trans H; rw [hy156]; with_reducible exact H2_) | (have H2_ := (Option.bind_some _ _).symm.trans H; with_reducible exact H2_) | with_reducible exact H | (rw [hy156]; exact H) | exact H
                              have Ny156 := Aside0.mk hy156
                              clear hy156
                              replace H := Option.bind_eq_some_iff.mp H
                              obtain ⟨t160, A420, H⟩ := H
                              replace H : (some t160) = some r := H
                              have A42 := Aside0.mk A420
                              clear A420
                              obtain rfl := Option.some.inj H
                              obtain ⟨Ao44, co44, eo44⟩ := Kd.R_slice HO_12.out
                              subst eo44
                              have q43 : ((ji34) : Int) ≤ ((t143.length : Int) : Int) := of_decide_eq_true (by first | (with_reducible assumption) | assumption)
                              obtain ⟨i043, hi043, _, hsz43, _⟩ := info_parts info3
                              have hroom43 : t143.length ≤ co44 := (Kd.R_reads' HO_12.out).2.1
                              have hC43 : Kd.C (Kd.int .i64) _ Ao44 t143.length t143 := (Kd.R_reads' HO_12.out).2.2
                              have hcut43 := cut_to (P := Try.prog) 23 3 .i64 Try.underlying23 hi043 Ao44 t143.length co44 (ji34) (of_decide_eq_true (by first | (with_reducible assumption) | assumption)) q43 hroom43
                              have hr43 := Kd.C_take (m := ((ji34) : Int).toNat) hC43 (by omega)
                              have hy43 : y151.length = ((ji34) : Int).toNat := (by rw [Ny151.out, List.length_take]; omega)
                              rw [← Ny151.out] at hr43
                              rw [← hy43] at hcut43
                              have HR154 := Aside0.mk hr43
                              have HC154 := Aside0.mk (show y151.length ≤ co44 from by omega)
                              clear hr43 hC43 hroom43 hi043 hsz43
                              have KY43 := Aside0.mk hy43
                              clear hy43
                              have KL43 := Aside0.mk (show ((ji34) : Int).toNat ≤ t143.length from by omega)
                              replace q43 := eq_true q43
                              obtain ⟨Ao45, co45, eo45⟩ := Kd.R_slice HO_10.out
                              subst eo45
                              go_wp2_with (first | (go_at_call 30; (with_reducible refine (thrumref06_Equal.calls kj16 _ _ t139 _ _ y151 true _ ?side1 ?side2 ?side3 ?side4 A37.out).mono ?_); (case side1 => repeat (first | exact (Kd.R_reads' HO_10.out).2.2 | (with_reducible refine Kd.C_alloc ?_ _) | (with_reducible refine Kd.C_drewN ?_ _) | (with_reducible refine Kd.C_drew ?_))); (case side2 => exact (Kd.R_reads' HO_10.out).2.1); (case side3 => repeat (first | exact (by repeat (first | (with_reducible exact HR154.out) | (with_reducible refine Kd.C_alloc ?_ _) | (with_reducible refine Kd.C_drewN ?_ _) | (with_reducible refine Kd.C_drew ?_) | exact HR154.out)) | (with_reducible refine Kd.C_alloc ?_ _) | (with_reducible refine Kd.C_drewN ?_ _) | (with_reducible refine Kd.C_drew ?_))); (case side4 => exact HC154.out); rintro e w' ⟨rfl, ⟨nd, rfl⟩⟩; obtain ⟨Ao47, co47, eo47⟩ := Kd.R_slice HO_14.out; subst eo47; have q46 : ((ji39) : Int) ≤ ((t147.length : Int) : Int) := of_decide_eq_true (by first | (with_reducible assumption) | assumption); obtain ⟨i046, hi046, _, hsz46, _⟩ := info_parts info3; have hroom46 : t147.length ≤ co47 := (Kd.R_reads' HO_14.out).2.1; have hC46 : Kd.C (Kd.int .i64) _ Ao47 t147.length t147 := (Kd.R_reads' HO_14.out).2.2; have hcut46 := cut_to (P := Try.prog) 23 3 .i64 Try.underlying23 hi046 Ao47 t147.length co47 (ji39) (of_decide_eq_true (by first | (with_reducible assumption) | assumption)) q46 hroom46; have hr46 := Kd.C_take (m := ((ji39) : Int).toNat) hC46 (by omega); have hy46 : y156.length = ((ji39) : Int).toNat := (by rw [Ny156.out, List.length_take]; omega); rw [← Ny156.out] at hr46; rw [← hy46] at hcut46; have HR159 := Aside0.mk hr46; have HC159 := Aside0.mk (show y156.length ≤ co47 from by omega); clear hr46 hC46 hroom46 hi046 hsz46; have KY46 := Aside0.mk hy46; clear hy46; have KL46 := Aside0.mk (show ((ji39) : Int).toNat ≤ t147.length from by omega); replace q46 := eq_true q46) | (go_at_call 30; (with_reducible refine (thrumref06_Equal.calls kj16 _ _ t143 _ _ y156 t160 _ ?side1 ?side2 ?side3 ?side4 A42.out).mono ?_); (case side1 => repeat (first | exact (Kd.R_reads' HO_12.out).2.2 | (with_reducible refine Kd.C_alloc ?_ _) | (with_reducible refine Kd.C_drewN ?_ _) | (with_reducible refine Kd.C_drew ?_))); (case side2 => exact (Kd.R_reads' HO_12.out).2.1); (case side3 => repeat (first | exact (by repeat (first | (with_reducible exact HR159.out) | (with_reducible refine Kd.C_alloc ?_ _) | (with_reducible refine Kd.C_drewN ?_ _) | (with_reducible refine Kd.C_drew ?_) | exact HR159.out)) | (with_reducible refine Kd.C_alloc ?_ _) | (with_reducible refine Kd.C_drewN ?_ _) | (with_reducible refine Kd.C_drew ?_))); (case side4 => exact HC159.out); rintro e w' ⟨rfl, ⟨nd, rfl⟩⟩))
                              go_ret
                              exact ⟨by first | rfl | (simp [errW_none, errW_some] <;> rfl) | (simp only [← hji34, ← hji39]; first | rfl | (simp [errW_none, errW_some] <;> rfl)) | (simp [*, errW_none, errW_some] <;> rfl), by repeat (first | (with_reducible first | exact HB.out | apply below_alloc | apply pw_below_drewN | apply below_drew1) | exact HB.out)⟩
                            · rw [if_neg c41] at H
                              exact absurd H (by simp)
                          · rw [if_neg c40] at H
                            exact absurd H (by simp)
                        · replace c38 := Bool.eq_false_iff.mpr c38
                          subst c38
                          have H1 : (some false) = some r := by rw [if_neg (show ¬ (false = true) by decide)] at H; exact H
                          clear H
                          have H := H1
                          clear H1
                          obtain rfl := Option.some.inj H
                          obtain ⟨Ao49, co49, eo49⟩ := Kd.R_slice HO_12.out
                          subst eo49
                          have q48 : ((ji34) : Int) ≤ ((t143.length : Int) : Int) := of_decide_eq_true (by first | (with_reducible assumption) | assumption)
                          obtain ⟨i048, hi048, _, hsz48, _⟩ := info_parts info3
                          have hroom48 : t143.length ≤ co49 := (Kd.R_reads' HO_12.out).2.1
                          have hC48 : Kd.C (Kd.int .i64) _ Ao49 t143.length t143 := (Kd.R_reads' HO_12.out).2.2
                          have hcut48 := cut_to (P := Try.prog) 23 3 .i64 Try.underlying23 hi048 Ao49 t143.length co49 (ji34) (of_decide_eq_true (by first | (with_reducible assumption) | assumption)) q48 hroom48
                          have hr48 := Kd.C_take (m := ((ji34) : Int).toNat) hC48 (by omega)
                          have hy48 : y151.length = ((ji34) : Int).toNat := (by rw [Ny151.out, List.length_take]; omega)
                          rw [← Ny151.out] at hr48
                          rw [← hy48] at hcut48
                          have HR154 := Aside0.mk hr48
                          have HC154 := Aside0.mk (show y151.length ≤ co49 from by omega)
                          clear hr48 hC48 hroom48 hi048 hsz48
                          have KY48 := Aside0.mk hy48
                          clear hy48
                          have KL48 := Aside0.mk (show ((ji34) : Int).toNat ≤ t143.length from by omega)
                          replace q48 := eq_true q48
                          obtain ⟨Ao50, co50, eo50⟩ := Kd.R_slice HO_10.out
                          subst eo50
                          go_wp2_with (first | (go_at_call 30; (with_reducible refine (thrumref06_Equal.calls kj16 _ _ t139 _ _ y151 false _ ?side1 ?side2 ?side3 ?side4 A37.out).mono ?_); (case side1 => repeat (first | exact (Kd.R_reads' HO_10.out).2.2 | (with_reducible refine Kd.C_alloc ?_ _) | (with_reducible refine Kd.C_drewN ?_ _) | (with_reducible refine Kd.C_drew ?_))); (case side2 => exact (Kd.R_reads' HO_10.out).2.1); (case side3 => repeat (first | exact (by repeat (first | (with_reducible exact HR154.out) | (with_reducible refine Kd.C_alloc ?_ _) | (with_reducible refine Kd.C_drewN ?_ _) | (with_reducible refine Kd.C_drew ?_) | exact HR154.out)) | (with_reducible refine Kd.C_alloc ?_ _) | (with_reducible refine Kd.C_drewN ?_ _) | (with_reducible refine Kd.C_drew ?_))); (case side4 => exact HC154.out); rintro e w' ⟨rfl, ⟨nd, rfl⟩⟩))
                          go_ret
                          exact ⟨by first | rfl | (simp [errW_none, errW_some] <;> rfl) | (simp only [← hji34]; first | rfl | (simp [errW_none, errW_some] <;> rfl)) | (simp [*, errW_none, errW_some] <;> rfl), by repeat (first | (with_reducible first | exact HB.out | apply below_alloc | apply pw_below_drewN | apply below_drew1) | exact HB.out)⟩
                      · rw [if_neg c36] at H
                        exact absurd H (by simp)
                    · rw [if_neg c35] at H
                      exact absurd H (by simp)
                  · exact absurd rfl c33
  · replace c6 := Bool.eq_false_iff.mpr c6
    subst c6
    have H1 : (some false) = some r := by rw [if_neg (show ¬ (false = true) by decide)] at H; exact H
    clear H
    have H := H1
    clear H1
    obtain rfl := Option.some.inj H
    go_enter Try.func9, Try.ntmps9
    go_wp2_with (first | ((with_reducible refine gate_callee (f := 15) rfl ?_); refine goesL_ (some 16) rfl rfl Try.func15 (by kernel_rfl) rfl #[] rfl (by (try simp only [List.map_toArray, List.map_cons, List.map_nil]); first | done | rfl | (simp only [List.length_drop, List.length_take]; rfl)) ?_; (with_reducible refine (thrumlaw08_live.calls k  false _ A5.out).mono ?_); rintro e w51 ⟨rfl, hb⟩; refine ⟨_, rfl, ?_⟩; have n0_ := Aside0.mk (below_step (by repeat (first | (with_reducible first | exact HB.out | apply below_alloc | apply pw_below_drewN | apply below_drew1) | exact HB.out)) hb); clear HB; have HB := n0_; clear n0_; (try clear hb); (try clear hb2); (try clear hk); (try clear hi)))
    go_ret
    exact ⟨by first | rfl | (simp [errW_none, errW_some] <;> rfl) | (simp [*, errW_none, errW_some] <;> rfl), by repeat (first | (with_reducible first | exact HB.out | apply below_alloc | apply pw_below_drewN | apply below_drew1) | exact HB.out)⟩

/-- THE ONE PURE STATEMENT of thrumlaw08_DrawSpreads: yours. -/
def thrumlaw08_DrawSpreads.Pure : Prop := ∀ (a0 : Int) (a1 : Int) (a2 : Int) (l3 : List Int), (Lit.int .i64 a0).wf = true → (Lit.int .i64 a1).wf = true → (Lit.int .u64 a2).wf = true → l3.length ≤ maxLen → l3.length * 8 ≤ 140737488351232 → (∀ x ∈ l3, (Lit.int .i64 x).wf = true) → ∃ k, thrumlaw08_DrawSpreads.f k a0 a1 a2 l3 = some true
theorem thrumlaw08_DrawSpreads.walk (P : thrumlaw08_DrawSpreads.Pure) (a0 : Int) (a1 : Int) (a2 : Int) (a3 : Option Addr) (len3 cap3 : Nat) (z3 : List Int) (w : World) (w0 : (Lit.int .i64 a0).wf = true) (w1 : (Lit.int .i64 a1).wf = true) (w2 : (Lit.int .u64 a2).wf = true) (w3 : (a3 = none ∧ len3 = 0 ∧ cap3 = 0 ∧ z3 = []) ∨ ∃ x, a3 = some x ∧ len3 ≤ cap3 ∧ cap3 ≤ maxLen ∧ z3.length = cap3 ∧ (∀ i, i < z3.length → w.cell? (x.add i) = some (.int .i64 (z3.getD i 0))) ∧ ∀ n ∈ z3, (Lit.int .i64 n).wf = true) (y3 : len3 * 8 ≤ 140737488351232) :
    Calls Try.prog 9 #[.int .i64 a0, .int .i64 a1, .int .u64 a2, .slice a3 len3 cap3] w fun e w' => e = .returned (.bool true) ∧ Below w.heap.size w w' := by
  obtain ⟨l3, rfl, hr3, hm3, hw3, hc3⟩ := ReadsInt.ofRowC w3
  obtain ⟨k, h⟩ := P a0 a1 a2 l3 w0 w1 w2 hm3 y3 hw3
  refine (thrumlaw08_DrawSpreads.calls k a0 a1 a2 _ _ l3 true w (Kd.C_of_reads (d := (0 : Int)) (h1 := fun _ => rfl) hr3) hc3 h).mono ?_
  rintro e w' ⟨rfl, hd⟩
  exact ⟨rfl, hd⟩

end Go.Proofs.Ytejhbmdjdbbnpaa.MDrawSpreads
