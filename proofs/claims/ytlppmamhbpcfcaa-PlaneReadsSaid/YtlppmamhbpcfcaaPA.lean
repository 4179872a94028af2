/- Functions that the laws use, each as a plain Lean function, with the proof that the Go code comes to just that; no conditions beyond those typed. -/
import Derived.Test.YtlppmamhbpcfcaaFunA
namespace Go.Proofs.Ytlppmamhbpcfcaa.MPl
open Go.RowKit Go.Proofs.YtlppmamhbpcfcaaW.PrintWords Go.Proofs.YtlppmamhbpcfcaaW.PrintLast Go.Proofs.YtlppmamhbpcfcaaW.PrintMore
attribute [local go_sem] max2_int min2_int max_two min_two max_three min_three max_four min_four   -- for this text's walks alone
set_option linter.unusedVariables false
set_option linter.unusedSimpArgs false

/-! ### plane_Bytes: function 31 -/
def plane_Bytes.j0 : Nat → Int → Int → Bool → Option (Int × Int)
  | 0, _, _, _ => none
  | k + 1, x0, x1, x6 => if x6 = true then (some (0, 1)) else (if x1 > 4096 then (some (0, 3)) else (some ((wrap64 ((wrap64 (x0 * x1)) + 7)) / 8, 0)))
def plane_Bytes.f (k : Nat) (a0 : Int) (a1 : Int) : Option (Int × Int) := if a0 < 0 then (plane_Bytes.j0 k a0 a1 true) else (if a0 > 32 then (plane_Bytes.j0 k a0 a1 true) else (plane_Bytes.j0 k a0 a1 (decide (a1 < 0))))
theorem plane_Bytes.mono_l : ∀ k, (∀ y0 y1 y2, LeO (plane_Bytes.j0 k y0 y1 y2) (plane_Bytes.j0 (k + 1) y0 y1 y2))
  | 0 => fun _ _ _ r h => by simp [plane_Bytes.j0] at h
  | k + 1 => by
    have ih0 := plane_Bytes.mono_l k
    · intro y0 y1 y2
      unfold plane_Bytes.j0
      repeat' first
      | (with_reducible exact ih0 _ _ _)
      | (with_reducible exact LeO.refl _)
      | (with_reducible exact LeO.none _)
      | (with_reducible refine LeO.ite ?_ ?_)
      | (with_reducible refine LeO.bind ?_ (fun _ => ?_))
      | exact ih0 _ _ _
      | exact LeO.none _
      | refine LeO.ite ?_ ?_
      | refine LeO.bind ?_ (fun _ => ?_)
theorem plane_Bytes.mono : ∀ a0 a1 k, LeO (plane_Bytes.f k a0 a1) (plane_Bytes.f (k + 1) a0 a1) := by
  intro a0 a1 k
  have ih0 := plane_Bytes.mono_l k
  unfold plane_Bytes.f
  repeat' first
      | (with_reducible exact ih0 _ _ _)
      | (with_reducible exact LeO.refl _)
      | (with_reducible exact LeO.none _)
      | (with_reducible refine LeO.ite ?_ ?_)
      | (with_reducible refine LeO.bind ?_ (fun _ => ?_))
      | exact ih0 _ _ _
      | exact LeO.none _
      | refine LeO.ite ?_ ?_
      | refine LeO.bind ?_ (fun _ => ?_)
set_option maxHeartbeats 8000000 in
set_option maxRecDepth 100000 in
theorem plane_Bytes.calls (k : Nat) (a0 : Int) (a1 : Int) (r1 : Int) (r2 : Int) (w : World) (h : plane_Bytes.f k a0 a1 = some (r1, r2)) :
    Calls Try.prog 31 #[.int .i64 a0, .int .i64 a1] w fun e w' => e = .returned (.tuple #[.int .i64 r1, .int .i64 r2]) ∧ Drawn0 w w' := by
  have H : (if a0 < 0 then (plane_Bytes.j0 k a0 a1 true) else (if a0 > 32 then (plane_Bytes.j0 k a0 a1 true) else (plane_Bytes.j0 k a0 a1 (decide (a1 < 0))))) = some (r1, r2) := h
  clear h
  have HC3 := Aside0.mk H
  clear H
  go_enter Try.func31, Try.ntmps31
  go_upto_region 1 with (fail)
  go_cut [6] (fun v6 wc => ∃ (kq : Nat) (x6_2 : Bool), v6 = .bool x6_2 ∧ Aside0 (plane_Bytes.j0 kq a0 a1 x6_2 = some (r1, r2)) ∧ Aside0 (kq ≤ k) ∧ Drawn0 w wc)
  case first =>
    have H := HC3.out
    clear HC3
    by_cases c4 : a0 < 0
    · rw [if_pos c4] at H
      have c4b0 : decide (a0 < 0) = true := decide_eq_true c4
      clear c4
      (first | rw [c4b0] | (simp only [i64_w, i32_w]; rw [c4b0]) | skip)
      have H' := Aside0.mk H
      clear H
      go_wp2
      go_meet
      case rel => exact ⟨_, (true), (by first | rfl | (simp; done) | (simp [*]; done)), H', ⟨by first | omega | exact Nat.le_refl _⟩, by repeat (first | exact Drawn0.refl _ | apply Drawn0.step)⟩
    · rw [if_neg c4] at H
      have c4b0 : decide (a0 < 0) = false := decide_eq_false c4
      clear c4
      (first | rw [c4b0] | (simp only [i64_w, i32_w]; rw [c4b0]) | skip)
      by_cases c5 : a0 > 32
      · rw [if_pos c5] at H
        have c5b0 : decide (32 < a0) = true := decide_eq_true c5
        clear c5
        have H' := Aside0.mk H
        clear H
        go_wp2
        go_meet
        case rel => exact ⟨_, (true), (by first | rfl | (simp; done) | (simp [*]; done)), H', ⟨by first | omega | exact Nat.le_refl _⟩, by repeat (first | exact Drawn0.refl _ | apply Drawn0.step)⟩
      · rw [if_neg c5] at H
        have c5b0 : decide (32 < a0) = false := decide_eq_false c5
        clear c5
        have H' := Aside0.mk H
        clear H
        go_wp2
        go_meet
        case rel => exact ⟨_, (decide (a1 < 0)), (by first | rfl | (simp; done) | (simp [*]; done)), H', ⟨by first | omega | exact Nat.le_refl _⟩, by repeat (first | exact Drawn0.refl _ | apply Drawn0.step)⟩
  case rest =>
    clear HC3
    try clear p2
    try clear c3
    try clear c4
    try clear c4b0
    try clear c5
    try clear c5b0
    obtain ⟨kq, x6_2, rfl, HA, HJ2, ⟨mc2, rfl⟩⟩ := hcut
    cases kq with
    | zero => exact absurd HA.out (by simp [plane_Bytes.j0])
    | succ kj2 =>
      have H := HA.out
      clear HA
      simp only [plane_Bytes.j0] at H
      by_cases c6 : x6_2 = true
      · subst c6
        have H1 : (some (0, 1)) = some (r1, r2) := by first | (rw [if_pos rfl] at H; exact H) | (rw [if_pos True.intro] at H; exact H)
        clear H
        have H := H1
        clear H1
        simp only [Option.some.injEq, Prod.mk.injEq] at H
        obtain ⟨rfl, rfl⟩ := H
        go_wp2
        go_ret2
        exact ⟨by first | rfl | (simp; done) | (simp [*]; done), by repeat (first | exact Drawn0.refl _ | apply Drawn0.step)⟩
      · replace c6 := Bool.eq_false_iff.mpr c6
        subst c6
        have H1 : (if a1 > 4096 then (some (0, 3)) else (some ((wrap64 ((wrap64 (a0 * a1)) + 7)) / 8, 0))) = some (r1, r2) := by rw [if_neg (show ¬ (false = true) by decide)] at H; exact H
        clear H
        have H := H1
        clear H1
        by_cases c7 : a1 > 4096
        · rw [if_pos c7] at H
          have c7b0 : decide (4096 < a1) = true := decide_eq_true c7
          clear c7
          simp only [Option.some.injEq, Prod.mk.injEq] at H
          obtain ⟨rfl, rfl⟩ := H
          go_wp2
          go_ret2
          exact ⟨by first | rfl | (simp; done) | (simp [*]; done), by repeat (first | exact Drawn0.refl _ | apply Drawn0.step)⟩
        · rw [if_neg c7] at H
          have c7b0 : decide (4096 < a1) = false := decide_eq_false c7
          clear c7
          simp only [Option.some.injEq, Prod.mk.injEq] at H
          obtain ⟨rfl, rfl⟩ := H
          go_wp2
          go_ret2
          exact ⟨by first | rfl | (simp; done) | (simp [*]; done), by repeat (first | exact Drawn0.refl _ | apply Drawn0.step)⟩

/-! ### slices_IndexFunc_uint64_uint64: function 79 -/
def slices_IndexFunc_uint64_uint64.l0 : Nat → List Int → Int → Int → Int → Option (Int)
  | 0, _, _, _, _ => none
  | k + 1, x0, x1, x7, x8 => if x8 < x7 then (if 0 ≤ x8 then (if x8 < (x0.length : Int) then (if 0 ≤ x1 then (if (shr .u64 (rd x0 x8) x1) = 0 then (slices_IndexFunc_uint64_uint64.l0 k x0 x1 x7 (wrap64 (x8 + 1))) else (some x8)) else (none)) else (none)) else (none)) else (some (-1))
def slices_IndexFunc_uint64_uint64.f (k : Nat) (l0 : List Int) (a1 : Int) : Option (Int) := slices_IndexFunc_uint64_uint64.l0 k l0 a1 (l0.length : Int) 0
theorem slices_IndexFunc_uint64_uint64.mono_l : ∀ k, (∀ y0 y1 y2 y3, LeO (slices_IndexFunc_uint64_uint64.l0 k y0 y1 y2 y3) (slices_IndexFunc_uint64_uint64.l0 (k + 1) y0 y1 y2 y3))
  | 0 => fun _ _ _ _ r h => by simp [slices_IndexFunc_uint64_uint64.l0] at h
  | k + 1 => by
    have ih0 := slices_IndexFunc_uint64_uint64.mono_l k
    · intro y0 y1 y2 y3
      unfold slices_IndexFunc_uint64_uint64.l0
      repeat' first
      | (with_reducible exact ih0 _ _ _ _)
      | (with_reducible exact LeO.refl _)
      | (with_reducible exact LeO.none _)
      | (with_reducible refine LeO.ite ?_ ?_)
      | (with_reducible refine LeO.bind ?_ (fun _ => ?_))
      | exact ih0 _ _ _ _
      | exact LeO.none _
      | refine LeO.ite ?_ ?_
      | refine LeO.bind ?_ (fun _ => ?_)
theorem slices_IndexFunc_uint64_uint64.mono : ∀ a0 a1 k, LeO (slices_IndexFunc_uint64_uint64.f k a0 a1) (slices_IndexFunc_uint64_uint64.f (k + 1) a0 a1) := by
  intro a0 a1 k
  have ih0 := slices_IndexFunc_uint64_uint64.mono_l k
  unfold slices_IndexFunc_uint64_uint64.f
  repeat' first
      | (with_reducible exact ih0 _ _ _ _)
      | (with_reducible exact LeO.refl _)
      | (with_reducible exact LeO.none _)
      | (with_reducible refine LeO.ite ?_ ?_)
      | (with_reducible refine LeO.bind ?_ (fun _ => ?_))
      | exact ih0 _ _ _ _
      | exact LeO.none _
      | refine LeO.ite ?_ ?_
      | refine LeO.bind ?_ (fun _ => ?_)
set_option maxHeartbeats 8000000 in
set_option maxRecDepth 100000 in
theorem slices_IndexFunc_uint64_uint64.calls (k : Nat) (A0 : Option Addr) (c0 : Nat) (l0 : List Int) (a1 : Int) (p0 : Addr) (r : Int) (w : World) (hr0 : Kd.C (Kd.int .u64) w A0 l0.length l0) (hc0 : l0.length ≤ c0) (hp : w.cell? p0 = some (.int .i64 a1)) (h : slices_IndexFunc_uint64_uint64.f k l0 a1 = some r) :
    Calls Try.prog 79 #[.slice A0 l0.length c0, .func (.func 73) #[] #[.pointer (some p0)]] w fun e w' => e = .returned (.int .i64 r) ∧ Drawn0 w w' := by
  have HR0 := Aside0.mk hr0
  have HC0 := Aside0.mk hc0
  have HP := Aside0.mk hp
  clear hr0 hc0 hp
  have H : (slices_IndexFunc_uint64_uint64.l0 k l0 a1 (l0.length : Int) 0) = some r := h
  clear h
  have H' := Aside0.mk H
  clear H
  go_enter Try.func79, Try.ntmps79
  go_wp2
  go_loopg [8] k (fun kq v8 w' => ∃ (x8_1 : Int), v8 = .int .i64 x8_1 ∧ Aside0 (slices_IndexFunc_uint64_uint64.l0 kq l0 a1 (l0.length : Int) x8_1 = some r) ∧ Aside0 (kq ≤ k) ∧ Drawn0 w w')
  case atStart => exact ⟨(0), (by first | rfl | (simp; done) | (simp [*]; done)), H', ⟨Nat.le_refl _⟩, by repeat (first | exact Drawn0.refl _ | apply Drawn0.step)⟩
  case round =>
    clear H'
    try clear p2
    obtain ⟨x8_1, rfl, HA, HK1, ⟨m1, rfl⟩⟩ := hrel
    cases gk with
    | zero => exact absurd HA.out (by simp [slices_IndexFunc_uint64_uint64.l0])
    | succ k1 =>
      have H := HA.out
      clear HA
      simp only [slices_IndexFunc_uint64_uint64.l0] at H
      by_cases c3 : x8_1 < (l0.length : Int)
      · rw [if_pos c3] at H
        have c3b0 : decide (x8_1 < (l0.length : Int)) = true := decide_eq_true c3
        clear c3
        by_cases c4 : 0 ≤ x8_1
        · rw [if_pos c4] at H
          have c4b0 : decide (0 ≤ x8_1) = true := decide_eq_true c4
          clear c4
          by_cases c5 : x8_1 < (l0.length : Int)
          · rw [if_pos c5] at H
            have c5b0 : decide (x8_1 < (l0.length : Int)) = true := decide_eq_true c5
            clear c5
            by_cases c6 : 0 ≤ a1
            · rw [if_pos c6] at H
              have c6b0 := eq_true c6
              have c6b1 : decide (0 ≤ a1) = true := decide_eq_true c6
              clear c6
              obtain ⟨ji7, hji7⟩ : ∃ j_ : Int, (shr .u64 (rd l0 x8_1) a1) = j_ := ⟨_, rfl⟩
              replace H : (if (ji7) = 0 then (slices_IndexFunc_uint64_uint64.l0 k1 l0 a1 (l0.length : Int) (wrap64 (x8_1 + 1))) else (some x8_1)) = some r := by first | (rw [hji7] at H; exact H) | (simp only [hji7] at H ⊢; exact H)
              have hji7_ : ((rd l0 x8_1) / 2 ^ min a1.toNat 64) = ji7 := hji7
              have hji7z : a1 ≤ 64 → ((rd l0 x8_1) / 2 ^ a1.toNat) = ji7 := shr_small hji7
              by_cases c8 : (ji7) = 0
              · rw [if_pos c8] at H
                have c8b0 : ((ji7) == 0) = true := beq_iff_eq.mpr c8
                have c8b1 : ((ji7) != 0) = false := bne_eq_false_iff_eq.mpr c8
                clear c8
                have H' := Aside0.mk H
                clear H
                have p101 : 0 ≤ (x8_1 : Int) := of_decide_eq_true (by first | (with_reducible assumption) | assumption)
                have q101 : x8_1 < (l0.length : Int) := of_decide_eq_true (by first | (with_reducible assumption) | assumption)
                obtain ⟨ad101, e101, hx101_0⟩ := Kd.at_int HR0.out x8_1 p101 q101
                cases e101
                replace p101 := eq_true p101
                replace q101 := eq_true q101
                go_wp2_with ((with_reducible refine gate_value 11 rfl ?_); refine goesV_ (some 16) rfl rfl Try.func73 (by kernel_rfl) rfl #[.int .u64 (rd l0 x8_1)] #[.pointer (some p0)] rfl rfl (by (try simp only [List.map_toArray, List.map_cons, List.map_nil]); first | done | rfl) ?_; refine (put1.calls (rd l0 x8_1) a1 ji7 p0 _ (cell_drewN HP.out _) (of_decide_eq_true c6b1) hji7).mono ?_; rintro e w' ⟨rfl, ⟨nd, rfl⟩⟩; refine ⟨_, rfl, ?_⟩)
                go_roundg k1
                case measure => have := HK1.out; omega
                case rel => exact ⟨(wrap64 (x8_1 + 1)), (by first | rfl | (simp; done) | (simp [*]; done)), H', ⟨by have := HK1.out; omega⟩, by repeat (first | exact Drawn0.refl _ | apply Drawn0.step)⟩
              · rw [if_neg c8] at H
                have c8b0 : ((ji7) == 0) = false := beq_eq_false_iff_ne.mpr c8
                have c8b1 : ((ji7) != 0) = true := bne_iff_ne.mpr c8
                obtain rfl := Option.some.inj H
                have p101 : 0 ≤ (x8_1 : Int) := of_decide_eq_true (by first | (with_reducible assumption) | assumption)
                have q101 : x8_1 < (l0.length : Int) := of_decide_eq_true (by first | (with_reducible assumption) | assumption)
                obtain ⟨ad101, e101, hx101_0⟩ := Kd.at_int HR0.out x8_1 p101 q101
                cases e101
                replace p101 := eq_true p101
                replace q101 := eq_true q101
                go_wp2_with ((with_reducible refine gate_value 11 rfl ?_); refine goesV_ (some 16) rfl rfl Try.func73 (by kernel_rfl) rfl #[.int .u64 (rd l0 x8_1)] #[.pointer (some p0)] rfl rfl (by (try simp only [List.map_toArray, List.map_cons, List.map_nil]); first | done | rfl) ?_; refine (put1.calls (rd l0 x8_1) a1 ji7 p0 _ (cell_drewN HP.out _) (of_decide_eq_true c6b1) hji7).mono ?_; rintro e w' ⟨rfl, ⟨nd, rfl⟩⟩; refine ⟨_, rfl, ?_⟩)
                go_ret
                exact ⟨by first | rfl | (simp; done) | (simp only [← hji7] <;> (first | rfl | simp)) | (simp [*]; done), by repeat (first | exact Drawn0.refl _ | apply Drawn0.step)⟩
            · rw [if_neg c6] at H
              exact absurd H (by simp)
          · rw [if_neg c5] at H
            exact absurd H (by simp)
        · rw [if_neg c4] at H
          exact absurd H (by simp)
      · rw [if_neg c3] at H
        have c3b0 : decide (x8_1 < (l0.length : Int)) = false := decide_eq_false c3
        clear c3
        obtain rfl := Option.some.inj H
        go_wp2
        go_ret
        exact ⟨by first | rfl | (simp; done) | (simp [*]; done), by repeat (first | exact Drawn0.refl _ | apply Drawn0.step)⟩

/-! ### slices_ContainsFunc_uint64_uint64: function 72 -/
def slices_ContainsFunc_uint64_uint64.f (k : Nat) (l0 : List Int) (a1 : Int) : Option (Bool) := (slices_IndexFunc_uint64_uint64.f k l0 a1).bind fun t102 => (some (decide (t102 ≥ 0)))
theorem slices_ContainsFunc_uint64_uint64.mono : ∀ a0 a1 k, LeO (slices_ContainsFunc_uint64_uint64.f k a0 a1) (slices_ContainsFunc_uint64_uint64.f (k + 1) a0 a1) := by
  intro a0 a1 k
  unfold slices_ContainsFunc_uint64_uint64.f
  repeat' first
      | (with_reducible exact slices_IndexFunc_uint64_uint64.mono _ _ _)
      | (with_reducible exact LeO.refl _)
      | (with_reducible exact LeO.none _)
      | (with_reducible refine LeO.ite ?_ ?_)
      | (with_reducible refine LeO.bind ?_ (fun _ => ?_))
      | exact slices_IndexFunc_uint64_uint64.mono _ _ _
      | exact LeO.none _
      | refine LeO.ite ?_ ?_
      | refine LeO.bind ?_ (fun _ => ?_)
set_option maxHeartbeats 8000000 in
set_option maxRecDepth 100000 in
theorem slices_ContainsFunc_uint64_uint64.calls (k : Nat) (A0 : Option Addr) (c0 : Nat) (l0 : List Int) (a1 : Int) (p0 : Addr) (r : Bool) (w : World) (hr0 : Kd.C (Kd.int .u64) w A0 l0.length l0) (hc0 : l0.length ≤ c0) (hp : w.cell? p0 = some (.int .i64 a1)) (h : slices_ContainsFunc_uint64_uint64.f k l0 a1 = some r) :
    Calls Try.prog 72 #[.slice A0 l0.length c0, .func (.func 73) #[] #[.pointer (some p0)]] w fun e w' => e = .returned (.bool r) ∧ Drawn0 w w' := by
  have HR0 := Aside0.mk hr0
  have HC0 := Aside0.mk hc0
  have HP := Aside0.mk hp
  clear hr0 hc0 hp
  have H : ((slices_IndexFunc_uint64_uint64.f k l0 a1).bind fun t102 => (some (decide (t102 ≥ 0)))) = some r := h
  clear h
  replace H := Option.bind_eq_some_iff.mp H
  obtain ⟨t102, A30, H⟩ := H
  replace H : (some (decide (t102 ≥ 0))) = some r := H
  have A3 := Aside0.mk A30
  clear A30
  obtain rfl := Option.some.inj H
  go_enter Try.func72, Try.ntmps72
  go_wp2_with (first | ((with_reducible refine gate_callee (f := 79) rfl ?_); refine goesL_ (some 7) rfl rfl Try.func79 (by kernel_rfl) rfl #[.slice A0 l0.length c0, .func (.func 73) #[] #[.pointer (some p0)]] rfl (by (try simp only [List.map_toArray, List.map_cons, List.map_nil]); first | done | rfl | (simp only [List.length_drop, List.length_take]; rfl)) ?_; (with_reducible refine (slices_IndexFunc_uint64_uint64.calls k _ _ l0 a1 p0 t102 _ ?side1 ?side2 ?side3 A3.out).mono ?_); (case side1 => repeat (first | exact HR0.out | (with_reducible refine Kd.C_alloc ?_ _) | (with_reducible refine Kd.C_drewN ?_ _) | (with_reducible refine Kd.C_drew ?_))); (case side2 => exact HC0.out); (case side3 => exact HP.out); rintro e w' ⟨rfl, ⟨nd, rfl⟩⟩; refine ⟨_, rfl, ?_⟩))
  go_ret
  exact ⟨by first | rfl | (simp; done) | (simp [*]; done), by repeat (first | exact Drawn0.refl _ | apply Drawn0.step)⟩

/-- A boxed number's block, just made. -/
theorem box_cell {wo w : World} {x : Value} {t : TypeId} (h : wo.alloc (Obj.cells #[x] t) = w) : w.cell? ⟨wo.heap.size, 0, none⟩ = some x := by subst h; exact blk_cell (blk_new wo _) 0
theorem box_below {wo w : World} {o : Obj} (h : wo.alloc o = w) : Below wo.heap.size wo w := by subst h; exact below_alloc (Below.refl _ _) _
theorem box_C {α : Type} {d : Kd α} {wo w : World} {o : Obj} {A : Option Addr} {n : Nat} {l : List α} (h : wo.alloc o = w) (hc : d.C wo A n l) : d.C w A n l := by subst h; exact Kd.C_alloc hc _
theorem box_at {wo w : World} {o : Obj} {p : Addr} {x : Value} (h : wo.alloc o = w) (hc : wo.cell? p = some x) : w.cell? p = some x := ((box_below h).cell (World.block_lt_of_cell? wo _ hc)).trans hc

/-! ### plane_Pack: function 13 -/
mutual
def plane_Pack.l0 : Nat → Int → List Int → List Int → Int → Int → Option (List Int × Int)
  | 0, _, _, _, _, _ => none
  | k + 1, x3, x10, x30, x31, x32 => if x32 < x31 then (if 0 ≤ x32 then (if x32 < (x30.length : Int) then (plane_Pack.l1 k x3 x10 x32 (rd x30 x32) x30 x31 x32 x3 0) else (none)) else (none)) else (some (x10, 0))
def plane_Pack.l1 : Nat → Int → List Int → Int → Int → List Int → Int → Int → Int → Int → Option (List Int × Int)
  | 0, _, _, _, _, _, _, _, _, _ => none
  | k + 1, x3, x10, x11, x12, x30, x31, x32, x37, x38 => if x38 < x37 then (if 0 ≤ ((wrap64 ((wrap64 (x11 * x3)) + x38)) / 8) then (if ((wrap64 ((wrap64 (x11 * x3)) + x38)) / 8) < (x10.length : Int) then (if 0 ≤ (wrap64 ((wrap64 (x3 - 1)) - x38)) then (if 0 ≤ (wrap64 (7 - (Go.bits .and .i64 (wrap64 ((wrap64 (x11 * x3)) + x38)) 7))) then (plane_Pack.l1 k x3 (x10.set (((wrap64 ((wrap64 (x11 * x3)) + x38)) / 8) : Int).toNat (Go.bits .or .u8 (rd x10 ((wrap64 ((wrap64 (x11 * x3)) + x38)) / 8)) (shl .u8 ((Go.bits .and .u64 (shr .u64 x12 (wrap64 ((wrap64 (x3 - 1)) - x38))) 1) % 256) (wrap64 (7 - (Go.bits .and .i64 (wrap64 ((wrap64 (x11 * x3)) + x38)) 7)))))) x11 x12 x30 x31 x32 x37 (wrap64 (x38 + 1))) else (none)) else (none)) else (none)) else (none)) else (plane_Pack.l0 k x3 x10 x30 x31 (wrap64 (x32 + 1)))
end
def plane_Pack.f (k : Nat) (a0 : Int) (l1 : List Int) : Option (List Int × Int) := (plane_Bytes.f k a0 (l1.length : Int)).bind fun bt103 => (if bt103.2 = 0 then ((slices_ContainsFunc_uint64_uint64.f k l1 a0).bind fun t105 => (if t105 = true then (some (([] : List Int), 1)) else (if 0 ≤ bt103.1 then (if (bt103.1 : Int).toNat ≤ 281474976710656 then (plane_Pack.l0 k a0 (List.replicate (bt103.1 : Int).toNat 0) l1 (l1.length : Int) 0) else (none)) else (none)))) else (some (([] : List Int), bt103.2)))
theorem plane_Pack.mono_l : ∀ k, (∀ y0 y1 y2 y3 y4, LeO (plane_Pack.l0 k y0 y1 y2 y3 y4) (plane_Pack.l0 (k + 1) y0 y1 y2 y3 y4)) ∧ (∀ y0 y1 y2 y3 y4 y5 y6 y7 y8, LeO (plane_Pack.l1 k y0 y1 y2 y3 y4 y5 y6 y7 y8) (plane_Pack.l1 (k + 1) y0 y1 y2 y3 y4 y5 y6 y7 y8))
  | 0 => ⟨fun _ _ _ _ _ r h => by simp [plane_Pack.l0] at h, fun _ _ _ _ _ _ _ _ _ r h => by simp [plane_Pack.l1] at h⟩
  | k + 1 => by
    obtain ⟨ih0, ih1⟩ := plane_Pack.mono_l k
    refine ⟨?_, ?_⟩
    · intro y0 y1 y2 y3 y4
      unfold plane_Pack.l0
      repeat' first
      | (with_reducible exact ih0 _ _ _ _ _)
      | (with_reducible exact ih1 _ _ _ _ _ _ _ _ _)
      | (with_reducible exact plane_Bytes.mono _ _ _)
      | (with_reducible exact slices_ContainsFunc_uint64_uint64.mono _ _ _)
      | (with_reducible exact LeO.refl _)
      | (with_reducible exact LeO.none _)
      | (with_reducible refine LeO.ite ?_ ?_)
      | (with_reducible refine LeO.bind ?_ (fun _ => ?_))
      | exact ih0 _ _ _ _ _
      | exact ih1 _ _ _ _ _ _ _ _ _
      | exact plane_Bytes.mono _ _ _
      | exact slices_ContainsFunc_uint64_uint64.mono _ _ _
      | exact LeO.none _
      | refine LeO.ite ?_ ?_
      | refine LeO.bind ?_ (fun _ => ?_)
    · intro y0 y1 y2 y3 y4 y5 y6 y7 y8
      unfold plane_Pack.l1
      repeat' first
      | (with_reducible exact ih0 _ _ _ _ _)
      | (with_reducible exact ih1 _ _ _ _ _ _ _ _ _)
      | (with_reducible exact plane_Bytes.mono _ _ _)
      | (with_reducible exact slices_ContainsFunc_uint64_uint64.mono _ _ _)
      | (with_reducible exact LeO.refl _)
      | (with_reducible exact LeO.none _)
      | (with_reducible refine LeO.ite ?_ ?_)
      | (with_reducible refine LeO.bind ?_ (fun _ => ?_))
      | exact ih0 _ _ _ _ _
      | exact ih1 _ _ _ _ _ _ _ _ _
      | exact plane_Bytes.mono _ _ _
      | exact slices_ContainsFunc_uint64_uint64.mono _ _ _
      | exact LeO.none _
      | refine LeO.ite ?_ ?_
      | refine LeO.bind ?_ (fun _ => ?_)
theorem plane_Pack.mono : ∀ a0 a1 k, LeO (plane_Pack.f k a0 a1) (plane_Pack.f (k + 1) a0 a1) := by
  intro a0 a1 k
  obtain ⟨ih0, ih1⟩ := plane_Pack.mono_l k
  unfold plane_Pack.f
  repeat' first
      | (with_reducible exact ih0 _ _ _ _ _)
      | (with_reducible exact ih1 _ _ _ _ _ _ _ _ _)
      | (with_reducible exact plane_Bytes.mono _ _ _)
      | (with_reducible exact slices_ContainsFunc_uint64_uint64.mono _ _ _)
      | (with_reducible exact LeO.refl _)
      | (with_reducible exact LeO.none _)
      | (with_reducible refine LeO.ite ?_ ?_)
      | (with_reducible refine LeO.bind ?_ (fun _ => ?_))
      | exact ih0 _ _ _ _ _
      | exact ih1 _ _ _ _ _ _ _ _ _
      | exact plane_Bytes.mono _ _ _
      | exact slices_ContainsFunc_uint64_uint64.mono _ _ _
      | exact LeO.none _
      | refine LeO.ite ?_ ?_
      | refine LeO.bind ?_ (fun _ => ?_)
def plane_Pack.T14 : Bool × List (List Nat × List Nat) := (true, [([], []), ([], []), ([1], [1]), ([0, 2], [0, 2]), ([3], [3]), ([], []), ([], []), ([6], [6]), ([], []), ([7, 8], [7, 8]), ([5, 9], [5, 9]), ([10], [10]), ([11], [11]), ([], []), ([13], [13]), ([14], [14]), ([12, 15], [12, 15]), ([4, 16], [4, 16]), ([0, 2, 0, 1, 2, 3, 4, 5, 6, 7, 8, 9, 10, 11, 12, 13, 14, 15, 16, 17], [0, 2]), ([18, 17, 0, 1, 2, 3, 4, 5, 6, 7, 8, 9, 10, 11, 12, 13, 14, 15, 16, 17], [17, 18])])
def plane_Pack.B14 : List Nat := [0, 0, 2, 7, 15, 0, 0, 64, 0, 448, 992, 2016, 4064, 0, 8192, 24576, 65504, 131071, 262143, 524287]
theorem plane_Pack.tab14 : rtab .any (opsOf Try.f54 14) = plane_Pack.T14 := by kernel_rfl
theorem plane_Pack.bits14 : waitsOk plane_Pack.T14.2 plane_Pack.B14 = true := by kernel_rfl
set_option maxHeartbeats 8000000 in
set_option maxRecDepth 100000 in
theorem plane_Pack_put.calls (k : Nat) (a0 : Int) (A1 : Option Addr) (c1 : Nat) (l1 : List Int) (r1 : List Int) (r2 : Int) (p0 : Addr) (wo : World) (hr1 : Kd.C (Kd.int .u64) wo A1 l1.length l1) (hc1 : l1.length ≤ c1) (hp : wo.cell? p0 = some (.int .i64 a0)) (h : plane_Pack.f k a0 l1 = some (r1, r2)) :
    Calls Try.prog 54 #[.int .i64 a0, .slice A1 l1.length c1, .func (.func 74) #[] #[.pointer (some p0)]] wo fun e w' => ∃ v0_ : Value, e = .returned (.tuple #[v0_, .int .i64 r2]) ∧ Kd.R (Kd.int .u8) 5 w' wo.heap.size (fun _ => True) v0_ r1 ∧ Below wo.heap.size wo w' := by
  have HR1 := Aside0.mk hr1
  have HC1 := Aside0.mk hc1
  have HP := Aside0.mk hp
  clear hr1 hc1 hp
  have hmf : ∀ (fn : Fn) (first cap : Array Value) (w : World), (Instr.makeFunc fn first cap).run Try.prog w = .ok (.func fn first cap) w := fun _ _ _ _ => rfl
  have H : ((plane_Bytes.f k a0 (l1.length : Int)).bind fun bt103 => (if bt103.2 = 0 then ((slices_ContainsFunc_uint64_uint64.f k l1 a0).bind fun t105 => (if t105 = true then (some (([] : List Int), 1)) else (if 0 ≤ bt103.1 then (if (bt103.1 : Int).toNat ≤ 281474976710656 then (plane_Pack.l0 k a0 (List.replicate (bt103.1 : Int).toNat 0) l1 (l1.length : Int) 0) else (none)) else (none)))) else (some (([] : List Int), bt103.2)))) = some (r1, r2) := h
  clear h
  replace H := Option.bind_eq_some_iff.mp H
  obtain ⟨⟨t103, t104⟩, A30, H⟩ := H
  replace H : (if t104 = 0 then ((slices_ContainsFunc_uint64_uint64.f k l1 a0).bind fun t105 => (if t105 = true then (some (([] : List Int), 1)) else (if 0 ≤ t103 then (if (t103 : Int).toNat ≤ 281474976710656 then (plane_Pack.l0 k a0 (List.replicate (t103 : Int).toNat 0) l1 (l1.length : Int) 0) else (none)) else (none)))) else (some (([] : List Int), t104))) = some (r1, r2) := H
  have A3 := Aside0.mk A30
  clear A30
  by_cases c4 : t104 = 0
  · rw [if_pos c4] at H
    have c4b0 : (t104 == 0) = true := beq_iff_eq.mpr c4
    have c4b1 : (t104 != 0) = false := bne_eq_false_iff_eq.mpr c4
    clear c4
    replace H := Option.bind_eq_some_iff.mp H
    obtain ⟨t105, A50, H⟩ := H
    replace H : (if t105 = true then (some (([] : List Int), 1)) else (if 0 ≤ t103 then (if (t103 : Int).toNat ≤ 281474976710656 then (plane_Pack.l0 k a0 (List.replicate (t103 : Int).toNat 0) l1 (l1.length : Int) 0) else (none)) else (none))) = some (r1, r2) := H
    have A5 := Aside0.mk A50
    clear A50
    by_cases c6 : t105 = true
    · subst c6
      have H1 : (some (([] : List Int), 1)) = some (r1, r2) := by first | (rw [if_pos rfl] at H; exact H) | (rw [if_pos True.intro] at H; exact H)
      clear H
      have H := H1
      clear H1
      simp only [Option.some.injEq, Prod.mk.injEq] at H
      obtain ⟨rfl, rfl⟩ := H
      go_enter Try.func54, Try.ntmps54
      go_wp2_with (first | ((with_reducible refine gate_callee (f := 31) rfl ?_); generalize hw_ : wo.alloc (Obj.cells #[.int .i64 a0] 3) = w; have HW1 := Aside0.mk (box_cell hw_); have HWB := Aside0.mk (box_below hw_); have HR2 := Aside0.mk (box_C hw_ HR1.out); have HP2 := Aside0.mk (box_at hw_ HP.out); clear HR1 HP hw_; have HR1 := HR2; have HP := HP2; clear HR2 HP2; have HB := Aside0.mk (Below.refl w.heap.size w); refine goesL_ (some 19) rfl rfl Try.func31 (by kernel_rfl) rfl #[.int .i64 a0, .int .i64 (l1.length : Int)] rfl (by (try simp only [List.map_toArray, List.map_cons, List.map_nil]); first | done | rfl | (simp only [List.length_drop, List.length_take]; rfl)) ?_; (with_reducible refine (plane_Bytes.calls k a0 (l1.length : Int) t103 t104 _ A3.out).mono ?_); rintro e w' ⟨rfl, ⟨nd, rfl⟩⟩; refine ⟨_, rfl, ?_⟩) | ((with_reducible refine gate_callee (f := 72) rfl ?_); refine goesL_ (some 27) rfl rfl Try.func72 (by kernel_rfl) rfl #[.slice A1 l1.length c1, .func (.func 73) #[] #[.pointer (some ⟨wo.heap.size, 0, none⟩)]] rfl (by (try simp only [List.map_toArray, List.map_cons, List.map_nil]); first | done | rfl | (simp only [List.length_drop, List.length_take]; rfl)) ?_; (with_reducible refine (slices_ContainsFunc_uint64_uint64.calls k _ _ l1 a0 ⟨wo.heap.size, 0, none⟩ true _ ?side1 ?side2 ?side3 A5.out).mono ?_); (case side1 => repeat (first | exact HR1.out | (with_reducible refine Kd.C_alloc ?_ _) | (with_reducible refine Kd.C_drewN ?_ _) | (with_reducible refine Kd.C_drew ?_))); (case side2 => exact HC1.out); (case side3 => exact HW1.out); rintro e w' ⟨rfl, ⟨nd, rfl⟩⟩; refine ⟨_, rfl, ?_⟩))
      go_ret2
      exact ⟨_, by first | rfl | (simp [errW_none, errW_some] <;> rfl) | (simp [*, errW_none, errW_some] <;> rfl), by first | exact Kd.R_nil _ _ _ _ _ | exact Kd.N_nil _ _ _ _ _ | exact Kd.V_nil _ _ _ _ _ | exact Kd.Q_nil _ _ _ _ _ | exact Kd.S_nil _ _ _ _ _, below_step HWB.out (by repeat (first | (with_reducible first | exact HB.out | apply below_alloc | apply pw_below_drewN | apply below_drew1) | exact HB.out))⟩
    · replace c6 := Bool.eq_false_iff.mpr c6
      subst c6
      have H1 : (if 0 ≤ t103 then (if (t103 : Int).toNat ≤ 281474976710656 then (plane_Pack.l0 k a0 (List.replicate (t103 : Int).toNat 0) l1 (l1.length : Int) 0) else (none)) else (none)) = some (r1, r2) := by rw [if_neg (show ¬ (false = true) by decide)] at H; exact H
      clear H
      have H := H1
      clear H1
      by_cases c7 : 0 ≤ t103
      · rw [if_pos c7] at H
        have c7b0 := eq_true c7
        have c7b1 : decide (0 ≤ t103) = true := decide_eq_true c7
        clear c7
        by_cases c8 : (t103 : Int).toNat ≤ 281474976710656
        · rw [if_pos c8] at H
          have c8b0 := eq_true c8
          have c8b1 : decide ((t103 : Int).toNat ≤ 281474976710656) = true := decide_eq_true c8
          clear c8
          obtain ⟨y106, hy106⟩ : ∃ y_ : List Int, y_ = (List.replicate (t103 : Int).toNat 0) := ⟨_, rfl⟩
          replace H : (plane_Pack.l0 k a0 y106 l1 (l1.length : Int) 0) = some (r1, r2) := by first | (rw [hy106]; with_reducible exact H) | (have H2_ := (Option.bind_some _ _).symm.trans H; rw [hy106]; with_reducible exact H2_) | (have H2_ := (Option.bind_some _ _).symm.trans H; with_reducible exact H2_) | with_reducible exact H | (rw [hy106]; exact H) | exact H
          have Ny106 := Aside0.mk hy106
          clear hy106
          have H' := Aside0.mk H
          clear H
          go_enter Try.func54, Try.ntmps54
          go_wp2_with (first | ((with_reducible refine gate_callee (f := 31) rfl ?_); generalize hw_ : wo.alloc (Obj.cells #[.int .i64 a0] 3) = w; have HW1 := Aside0.mk (box_cell hw_); have HWB := Aside0.mk (box_below hw_); have HR2 := Aside0.mk (box_C hw_ HR1.out); have HP2 := Aside0.mk (box_at hw_ HP.out); clear HR1 HP hw_; have HR1 := HR2; have HP := HP2; clear HR2 HP2; have HB := Aside0.mk (Below.refl w.heap.size w); refine goesL_ (some 19) rfl rfl Try.func31 (by kernel_rfl) rfl #[.int .i64 a0, .int .i64 (l1.length : Int)] rfl (by (try simp only [List.map_toArray, List.map_cons, List.map_nil]); first | done | rfl | (simp only [List.length_drop, List.length_take]; rfl)) ?_; (with_reducible refine (plane_Bytes.calls k a0 (l1.length : Int) t103 t104 _ A3.out).mono ?_); rintro e w' ⟨rfl, ⟨nd, rfl⟩⟩; refine ⟨_, rfl, ?_⟩) | ((with_reducible refine gate_callee (f := 72) rfl ?_); refine goesL_ (some 27) rfl rfl Try.func72 (by kernel_rfl) rfl #[.slice A1 l1.length c1, .func (.func 73) #[] #[.pointer (some ⟨wo.heap.size, 0, none⟩)]] rfl (by (try simp only [List.map_toArray, List.map_cons, List.map_nil]); first | done | rfl | (simp only [List.length_drop, List.length_take]; rfl)) ?_; (with_reducible refine (slices_ContainsFunc_uint64_uint64.calls k _ _ l1 a0 ⟨wo.heap.size, 0, none⟩ false _ ?side1 ?side2 ?side3 A5.out).mono ?_); (case side1 => repeat (first | exact HR1.out | (with_reducible refine Kd.C_alloc ?_ _) | (with_reducible refine Kd.C_drewN ?_ _) | (with_reducible refine Kd.C_drew ?_))); (case side2 => exact HC1.out); (case side3 => exact HW1.out); rintro e w' ⟨rfl, ⟨nd, rfl⟩⟩; refine ⟨_, rfl, ?_⟩) | ((with_reducible refine gate_dst (N := 29) rfl ?_); refine Kd.R_make (Kd.int .u8) _ 5 rfl (N := 29) rfl 26 _ _ rfl t103 rfl rfl Try.underlying26 (.int .u8 0) 1 info5 rfl (by decide) (by omega) 0 (ok := fun _ => True) (okp := fun _ => True) rfl (fun _ hk => hk) trivial (of_decide_eq_true (by first | (with_reducible assumption) | assumption)) (Nat.le_trans (Nat.mul_le_mul_right _ (of_decide_eq_true (by first | (with_reducible assumption) | assumption) : t103.toNat ≤ 281474976710656)) (by omega)) (Below.refl _ _) (Nat.le_refl _) ?_; intro v107 w9 ho10 hb hg_ hnew_; clear hg_ hnew_; (first | rw [← Ny106.out] at ho10 | (simp only [Int.reduceToNat] at ho10; rw [← Ny106.out] at ho10)); have n0_ := Aside0.mk (Kd.R_lower ho10 (below_size (by repeat (first | (with_reducible first | exact HB.out | apply below_alloc | apply pw_below_drewN | apply below_drew1) | exact HB.out)))); have n1_ := Aside0.mk (below_step (by repeat (first | (with_reducible first | exact HB.out | apply below_alloc | apply pw_below_drewN | apply below_drew1) | exact HB.out)) hb); clear HB; have HO108 := n0_; have HB := n1_; clear n0_ n1_; clear hb ho10))
          go_loopg [32] k (fun kq v32 w' => ∃ (x10_1 : List Int) (x32_1 : Int), v32 = .int .i64 x32_1 ∧ Aside0 (plane_Pack.l0 kq a0 x10_1 l1 (l1.length : Int) x32_1 = some (r1, r2)) ∧ Aside0 (kq ≤ k) ∧ Aside0 (Kd.R (Kd.int .u8) 5 w' w.heap.size (fun _ => True) v107 x10_1) ∧ Aside0 (Below w.heap.size w w'))
          case atStart => exact ⟨(y106), (0), (by first | rfl | (simp; done) | (simp [*]; done)), H', ⟨Nat.le_refl _⟩, ⟨by (with_reducible repeat (first | apply Kd.R_alloc | apply Kd.R_drewN | apply Kd.R_drew)); exact HO108.out⟩, ⟨by repeat (first | (with_reducible first | exact HB.out | apply below_alloc | apply pw_below_drewN | apply below_drew1) | exact HB.out)⟩⟩
          case round =>
            clear H'
            try clear c1
            try clear p2
            try clear c3
            try clear c4
            try clear c4b0
            try clear c4b1
            try clear c6
            try clear c7
            try clear c7b0
            try clear c7b1
            try clear c8
            try clear c8b0
            try clear c8b1
            obtain ⟨x10_1, x32_1, rfl, HA, HK1, HO_10, HB⟩ := hrel
            cases gk with
            | zero => exact absurd HA.out (by simp [plane_Pack.l0])
            | succ k1 =>
              have H := HA.out
              clear HA
              simp only [plane_Pack.l0] at H
              by_cases c11 : x32_1 < (l1.length : Int)
              · rw [if_pos c11] at H
                have c11b0 : decide (x32_1 < (l1.length : Int)) = true := decide_eq_true c11
                clear c11
                by_cases c12 : 0 ≤ x32_1
                · rw [if_pos c12] at H
                  have c12b0 : decide (0 ≤ x32_1) = true := decide_eq_true c12
                  clear c12
                  by_cases c13 : x32_1 < (l1.length : Int)
                  · rw [if_pos c13] at H
                    have c13b0 : decide (x32_1 < (l1.length : Int)) = true := decide_eq_true c13
                    clear c13
                    have H' := Aside0.mk H
                    clear H
                    have p109 : 0 ≤ (x32_1 : Int) := of_decide_eq_true (by first | (with_reducible assumption) | assumption)
                    have q109 : x32_1 < (l1.length : Int) := of_decide_eq_true (by first | (with_reducible assumption) | assumption)
                    obtain ⟨ad109, e109, hx109_0⟩ := Kd.at_int HR1.out x32_1 p109 q109
                    cases e109
                    replace hx109_0 := (HB.out.cell (World.block_lt_of_cell? w _ hx109_0)).trans hx109_0
                    replace p109 := eq_true p109
                    replace q109 := eq_true q109
                    have hbx_ := (HB.out.cell (World.block_lt_of_cell? w _ HW1.out)).trans HW1.out
                    go_wp2
                    go_loopg [38] k1 (fun kq v38 w' => ∃ (x10_2 : List Int) (x38_2 : Int), v38 = .int .i64 x38_2 ∧ Aside0 (plane_Pack.l1 kq a0 x10_2 x32_1 (rd l1 x32_1) l1 (l1.length : Int) x32_1 a0 x38_2 = some (r1, r2)) ∧ Aside0 (kq ≤ k1) ∧ Aside0 (Kd.R (Kd.int .u8) 5 w' w.heap.size (fun _ => True) v107 x10_2) ∧ Aside0 (Below w.heap.size w w'))
                    case atStart => exact ⟨(x10_1), (0), (by first | rfl | (simp; done) | (simp [*]; done)), H', ⟨Nat.le_refl _⟩, ⟨by (with_reducible repeat (first | apply Kd.R_alloc | apply Kd.R_drewN | apply Kd.R_drew)); exact HO_10.out⟩, ⟨by repeat (first | (with_reducible first | exact HB.out | apply below_alloc | apply pw_below_drewN | apply below_drew1) | exact HB.out)⟩⟩
                    case round =>
                      clear H'
                      try clear c1
                      try clear p1
                      try clear q1
                      try clear hx1
                      try clear p2
                      try clear c3
                      try clear c4
                      try clear c4b0
                      try clear c4b1
                      try clear c6
                      try clear c7
                      try clear c7b0
                      try clear c7b1
                      try clear c8
                      try clear c8b0
                      try clear c8b1
                      try clear p10
                      try clear q10
                      try clear hx10
                      try clear c11
                      try clear c11b0
                      try clear c12
                      try clear c12b0
                      try clear c13
                      try clear c13b0
                      try clear hx109_0
                      try clear p109
                      try clear p2
                      try clear q109
                      obtain ⟨x10_2, x38_2, rfl, HA, HK2, HO_10, HB⟩ := hrel
                      cases gk with
                      | zero => exact absurd HA.out (by simp [plane_Pack.l1])
                      | succ k2 =>
                        have H := HA.out
                        clear HA
                        simp only [plane_Pack.l1] at H
                        by_cases c14 : x38_2 < a0
                        · rw [if_pos c14] at H
                          have c14b0 : decide (x38_2 < a0) = true := decide_eq_true c14
                          clear c14
                          obtain ⟨ji15, hji15⟩ : ∃ j_ : Int, ((wrap64 ((wrap64 (x32_1 * a0)) + x38_2)) / 8) = j_ := ⟨_, rfl⟩
                          replace H : (if 0 ≤ (ji15) then (if (ji15) < (x10_2.length : Int) then (if 0 ≤ (wrap64 ((wrap64 (a0 - 1)) - x38_2)) then (if 0 ≤ (wrap64 (7 - (Go.bits .and .i64 (wrap64 ((wrap64 (x32_1 * a0)) + x38_2)) 7))) then (plane_Pack.l1 k2 a0 (x10_2.set ((ji15) : Int).toNat (Go.bits .or .u8 (rd x10_2 (ji15)) (shl .u8 ((Go.bits .and .u64 (shr .u64 (rd l1 x32_1) (wrap64 ((wrap64 (a0 - 1)) - x38_2))) 1) % 256) (wrap64 (7 - (Go.bits .and .i64 (wrap64 ((wrap64 (x32_1 * a0)) + x38_2)) 7)))))) x32_1 (rd l1 x32_1) l1 (l1.length : Int) x32_1 a0 (wrap64 (x38_2 + 1))) else (none)) else (none)) else (none)) else (none)) = some (r1, r2) := by first | (rw [hji15] at H; exact H) | (simp only [hji15] at H ⊢; exact H)
                          by_cases c16 : 0 ≤ (ji15)
                          · rw [if_pos c16] at H
                            have c16b0 : decide (0 ≤ (ji15)) = true := decide_eq_true c16
                            clear c16
                            by_cases c17 : (ji15) < (x10_2.length : Int)
                            · rw [if_pos c17] at H
                              have c17b0 : decide ((ji15) < (x10_2.length : Int)) = true := decide_eq_true c17
                              clear c17
                              obtain ⟨ji18, hji18⟩ : ∃ j_ : Int, (wrap64 ((wrap64 (a0 - 1)) - x38_2)) = j_ := ⟨_, rfl⟩
                              replace H : (if 0 ≤ (ji18) then (if 0 ≤ (wrap64 (7 - (Go.bits .and .i64 (wrap64 ((wrap64 (x32_1 * a0)) + x38_2)) 7))) then (plane_Pack.l1 k2 a0 (x10_2.set ((ji15) : Int).toNat (Go.bits .or .u8 (rd x10_2 (ji15)) (shl .u8 ((Go.bits .and .u64 (shr .u64 (rd l1 x32_1) (ji18)) 1) % 256) (wrap64 (7 - (Go.bits .and .i64 (wrap64 ((wrap64 (x32_1 * a0)) + x38_2)) 7)))))) x32_1 (rd l1 x32_1) l1 (l1.length : Int) x32_1 a0 (wrap64 (x38_2 + 1))) else (none)) else (none)) = some (r1, r2) := by first | (rw [hji18] at H; exact H) | (simp only [hji18] at H ⊢; exact H)
                              have hji18w : (IntKind.i64.wrap ((wrap64 (a0 - 1)) - x38_2)) = ji18 := (i64_w _).trans hji18
                              by_cases c19 : 0 ≤ (ji18)
                              · rw [if_pos c19] at H
                                have c19b0 := eq_true c19
                                have c19b1 : decide (0 ≤ (ji18)) = true := decide_eq_true c19
                                clear c19
                                obtain ⟨ji20, hji20⟩ : ∃ j_ : Int, (shr .u64 (rd l1 x32_1) (ji18)) = j_ := ⟨_, rfl⟩
                                replace H : (if 0 ≤ (wrap64 (7 - (Go.bits .and .i64 (wrap64 ((wrap64 (x32_1 * a0)) + x38_2)) 7))) then (plane_Pack.l1 k2 a0 (x10_2.set ((ji15) : Int).toNat (Go.bits .or .u8 (rd x10_2 (ji15)) (shl .u8 ((Go.bits .and .u64 (ji20) 1) % 256) (wrap64 (7 - (Go.bits .and .i64 (wrap64 ((wrap64 (x32_1 * a0)) + x38_2)) 7)))))) x32_1 (rd l1 x32_1) l1 (l1.length : Int) x32_1 a0 (wrap64 (x38_2 + 1))) else (none)) = some (r1, r2) := by first | (rw [hji20] at H; exact H) | (simp only [hji20] at H ⊢; exact H)
                                have hji20_ : ((rd l1 x32_1) / 2 ^ min (ji18).toNat 64) = ji20 := hji20
                                have hji20z : (ji18) ≤ 64 → ((rd l1 x32_1) / 2 ^ (ji18).toNat) = ji20 := shr_small hji20
                                obtain ⟨ji21, hji21⟩ : ∃ j_ : Int, (wrap64 (7 - (Go.bits .and .i64 (wrap64 ((wrap64 (x32_1 * a0)) + x38_2)) 7))) = j_ := ⟨_, rfl⟩
                                replace H : (if 0 ≤ (ji21) then (plane_Pack.l1 k2 a0 (x10_2.set ((ji15) : Int).toNat (Go.bits .or .u8 (rd x10_2 (ji15)) (shl .u8 ((Go.bits .and .u64 (ji20) 1) % 256) (ji21)))) x32_1 (rd l1 x32_1) l1 (l1.length : Int) x32_1 a0 (wrap64 (x38_2 + 1))) else (none)) = some (r1, r2) := by first | (rw [hji21] at H; exact H) | (simp only [hji21] at H ⊢; exact H)
                                have hji21w : (IntKind.i64.wrap (7 - (Go.bits .and .i64 (wrap64 ((wrap64 (x32_1 * a0)) + x38_2)) 7))) = ji21 := (i64_w _).trans hji21
                                by_cases c22 : 0 ≤ (ji21)
                                · rw [if_pos c22] at H
                                  have c22b0 := eq_true c22
                                  have c22b1 : decide (0 ≤ (ji21)) = true := decide_eq_true c22
                                  clear c22
                                  obtain ⟨ji23, hji23⟩ : ∃ j_ : Int, (shl .u8 ((Go.bits .and .u64 (ji20) 1) % 256) (ji21)) = j_ := ⟨_, rfl⟩
                                  replace H : (plane_Pack.l1 k2 a0 (x10_2.set ((ji15) : Int).toNat (Go.bits .or .u8 (rd x10_2 (ji15)) (ji23))) x32_1 (rd l1 x32_1) l1 (l1.length : Int) x32_1 a0 (wrap64 (x38_2 + 1))) = some (r1, r2) := by first | (rw [hji23] at H; exact H) | (simp only [hji23] at H ⊢; exact H)
                                  have hji23_ : (IntKind.u8.wrap (((Go.bits .and .u64 (ji20) 1) % 256) * 2 ^ min (ji21).toNat 8)) = ji23 := hji23
                                  have hji23z : (ji21) ≤ 8 → (IntKind.u8.wrap (((Go.bits .and .u64 (ji20) 1) % 256) * 2 ^ (ji21).toNat)) = ji23 := shl_small hji23
                                  have hji23v : (Go.bits .and .u64 (ji20) 1) % 256 * 2 ^ min ji21.toNat 8 % 256 = ji23 := (Go.IntKind.wrap_u8 _).symm.trans hji23
                                  obtain ⟨y111, hy111⟩ : ∃ y_ : List Int, y_ = (x10_2.set ((ji15) : Int).toNat (Go.bits .or .u8 (rd x10_2 (ji15)) (ji23))) := ⟨_, rfl⟩
                                  replace H : (plane_Pack.l1 k2 a0 y111 x32_1 (rd l1 x32_1) l1 (l1.length : Int) x32_1 a0 (wrap64 (x38_2 + 1))) = some (r1, r2) := by first | (rw [hy111]; with_reducible exact H) | (have H2_ := (Option.bind_some _ _).symm.trans H; rw [hy111]; with_reducible exact H2_) | (have H2_ := (Option.bind_some _ _).symm.trans H; with_reducible exact H2_) | with_reducible exact H | (rw [hy111]; exact H) | exact H
                                  have Ny111 := Aside0.mk hy111
                                  clear hy111
                                  have H' := Aside0.mk H
                                  clear H
                                  go_wp2_with ((with_reducible refine gate_value 41 rfl ?_); refine goesV_ (some 44) rfl rfl Try.func74 (by kernel_rfl) rfl #[.int .i64 x32_1, .int .i64 x38_2] #[.pointer (some p0)] rfl rfl (by (try simp only [List.map_toArray, List.map_cons, List.map_nil]); first | done | rfl) ?_; refine (side1.calls x32_1 x38_2 a0 p0 _ ((HB.out.cell (World.block_lt_of_cell? w _ HP.out)).trans HP.out)).mono ?_; rintro e w' ⟨rfl, ⟨nd, rfl⟩⟩; refine ⟨_, rfl, ?_⟩; have n0_ := Aside0.mk (Kd.R_drewN HO_10.out nd); have n1_ := Aside0.mk (pw_below_drewN HB.out nd); clear HO_10 HB; have HO_10 := n0_; have HB := n1_; clear n0_ n1_; generalize wr.drewN nd = wr2 at HO_10 HB ⊢)
                                  have hbx_ := (HB.out.cell (World.block_lt_of_cell? w _ HW1.out)).trans HW1.out
                                  have n0_ := Aside0.mk (Kd.R_drew HO_10.out)
                                  have n1_ := Aside0.mk (below_drew1 HB.out)
                                  clear HO_10
                                  clear HB
                                  have HO_10 := n0_
                                  have HB := n1_
                                  clear n0_ n1_
                                  obtain ⟨Ao26, co26, eo26⟩ := Kd.R_slice HO_10.out
                                  (first | subst eo26 | (injection eo26 with f1_ f2_ f3_; have f4_ := f1_.symm; have f5_ := f3_.symm; clear f1_ f2_ f3_; subst f4_; subst f5_))
                                  have p110 : 0 ≤ ((ji15) : Int) := of_decide_eq_true (by first | (with_reducible assumption) | assumption)
                                  have q110 : (ji15) < (x10_2.length : Int) := of_decide_eq_true (by first | (with_reducible assumption) | assumption)
                                  obtain ⟨ad110, e110, hx110_0⟩ := Kd.at_int (Kd.R_reads' HO_10.out).2.2 (ji15) p110 q110
                                  cases e110
                                  replace p110 := eq_true p110
                                  replace q110 := eq_true q110
                                  have p24 : 0 ≤ ((ji15) : Int) := of_decide_eq_true (by first | (with_reducible assumption) | assumption)
                                  have q24 : ((ji15) : Int) < ((x10_2.length : Int) : Int) := of_decide_eq_true (by first | (with_reducible assumption) | assumption)
                                  obtain ⟨go24, co24, eo24, gb24, gl24, cl24, HG24⟩ := Kd.R_form HO_10.out (by omega)
                                  (first | cases eo24 | (injection eo24 with ea_ en_ ec_; (first | subst ea_ | (injection ea_ with ea_; subst ea_)); subst ec_; clear en_))
                                  have GB24 := Aside0.mk gb24
                                  have GG24 := Aside0.mk HG24
                                  clear gb24 gl24 HG24
                                  (first | simp only [add_plain] at hx110_0 | skip)
                                  obtain ⟨hx24_0, hf24_0⟩ := Kd.R_celln 0 HO_10.out ((ji15) : Int) p24 q24
                                  replace p24 := eq_true p24
                                  replace q24 := eq_true q24
                                  have HP27 := Kd.R_putn HO_10.out ((ji15) : Int) (Go.bits .or .u8 (rd x10_2 (ji15)) (ji23))
                                  rw [← Ny111.out] at HP27
                                  have HQ27 := Aside0.mk HP27
                                  clear HP27
                                  refine start_ (n := 20) (S := fun w' => w'.cell? ⟨go24, ((ji15)).toNat, none⟩ = some (.int .u8 (rd x10_2 (ji15))) ∧ w'.cell? ⟨wo.heap.size, 0, none⟩ = some (.int .i64 a0)) (ds := [19]) #[false, false, false, false, false, false, false, false, false, false, false, false, false, false, false, false, false, false, false, false] (by kernel_rfl) rfl rfl ⟨hx110_0, hbx_⟩ (fun hHeld => ?_); refine with_tabW plane_Pack.tab14 plane_Pack.bits14 (fun HT_ HW_ => ?_)
                                  generalize wr2.drew = w25 at HO_10 HB GG24 HQ27 hf24_0 hx110_0 hx24_0 hHeld ⊢
                                  refine pure_ (i := 0) (N := some 45) (v := ?_) (a' := ?_) #[true, false, false, false, false, false, false, false, false, false, false, false, false, false, false, false, false, false, false, false] rfl rfl (any_of HT_.out (by kernel_rfl)) (fun _ _ _ h => h) (Or.inl ⟨by rfl, ?_⟩) ?_ ?_
                                  rotate_left
                                  · intro w'
                                    go_simp
                                    with_reducible rfl
                                  rotate_left
                                  · simp only [Act.put, List.setIfInBounds_toArray, List.set_cons_zero, List.set_cons_succ, i64_w, i32_w]
                                    rfl
                                  refine pure_ (i := 1) (N := some 46) (v := ?_) (a' := ?_) #[true, true, false, false, false, false, false, false, false, false, false, false, false, false, false, false, false, false, false, false] rfl rfl (any_of HT_.out (by kernel_rfl)) (fun _ _ _ h => h) (Or.inl ⟨by rfl, ?_⟩) ?_ ?_
                                  rotate_left
                                  · intro w'
                                    go_simp
                                    with_reducible rfl
                                  rotate_left
                                  · simp only [Act.put, List.setIfInBounds_toArray, List.set_cons_zero, List.set_cons_succ, i64_w, i32_w]
                                    rfl
                                  refine pure_ (i := 2) (N := some 47) (v := ?_) (a' := ?_) #[true, true, true, false, false, false, false, false, false, false, false, false, false, false, false, false, false, false, false, false] rfl rfl (any_of HT_.out (by kernel_rfl)) (fun _ _ _ h => h) (Or.inl ⟨by rfl, ?_⟩) ?_ ?_
                                  rotate_left
                                  · intro w'
                                    go_simp
                                    with_reducible rfl
                                  rotate_left
                                  · simp only [Act.put, List.setIfInBounds_toArray, List.set_cons_zero, List.set_cons_succ, i64_w, i32_w]
                                    rfl
                                  refine pure_ (i := 3) (N := some 48) (v := ?_) (a' := ?_) #[true, true, true, true, false, false, false, false, false, false, false, false, false, false, false, false, false, false, false, false] rfl rfl (any_of HT_.out (by kernel_rfl)) (fun _ _ _ h => h) (Or.inl ⟨by rfl, ?_⟩) ?_ ?_
                                  rotate_left
                                  · intro w'
                                    go_simp
                                    with_reducible rfl
                                  rotate_left
                                  · simp only [Act.put, List.setIfInBounds_toArray, List.set_cons_zero, List.set_cons_succ, i64_w, i32_w]
                                    rfl
                                  refine pure_ (i := 5) (N := some 50) (v := ?_) (a' := ?_) #[true, true, true, true, false, true, false, false, false, false, false, false, false, false, false, false, false, false, false, false] rfl rfl (any_of HT_.out (by kernel_rfl)) (fun _ _ _ h => h) (Or.inl ⟨by rfl, ?_⟩) ?_ ?_
                                  rotate_left
                                  · intro w'
                                    go_simp
                                    with_reducible rfl
                                  rotate_left
                                  · simp only [Act.put, List.setIfInBounds_toArray, List.set_cons_zero, List.set_cons_succ, i64_w, i32_w]
                                    rfl
                                  refine take_ (i := 6) (N := some 51) (v := ?_) (a' := ?_) #[true, true, true, true, false, true, true, false, false, false, false, false, false, false, false, false, false, false, false, false] rfl rfl (take_ofW HT_.out HW_.out (by kernel_rfl)) (fun _ _ _ h => h) (Or.inl ⟨by rfl, ?_⟩) hHeld ?_ ?_
                                  rotate_left
                                  · rintro w' ⟨s0, s1⟩
                                    go_simp
                                    with_reducible rfl
                                  rotate_left
                                  · simp only [Act.put, List.setIfInBounds_toArray, List.set_cons_zero, List.set_cons_succ, i64_w, i32_w]
                                    rfl
                                  refine pure_ (i := 7) (N := some 52) (v := ?_) (a' := ?_) #[true, true, true, true, false, true, true, true, false, false, false, false, false, false, false, false, false, false, false, false] rfl rfl (any_of HT_.out (by kernel_rfl)) (fun _ _ _ h => h) (Or.inl ⟨by rfl, ?_⟩) ?_ ?_
                                  rotate_left
                                  · intro w'
                                    go_simp
                                    with_reducible rfl
                                  rotate_left
                                  · simp only [Act.put, List.setIfInBounds_toArray, List.set_cons_zero, List.set_cons_succ, i64_w, i32_w]
                                    rfl
                                  refine pure_ (i := 8) (N := some 53) (v := ?_) (a' := ?_) #[true, true, true, true, false, true, true, true, true, false, false, false, false, false, false, false, false, false, false, false] rfl rfl (any_of HT_.out (by kernel_rfl)) (fun _ _ _ h => h) (Or.inl ⟨by rfl, ?_⟩) ?_ ?_
                                  rotate_left
                                  · intro w'
                                    go_simp
                                    with_reducible rfl
                                  rotate_left
                                  · simp only [Act.put, List.setIfInBounds_toArray, List.set_cons_zero, List.set_cons_succ, i64_w, i32_w]
                                    rfl
                                  refine pure_ (i := 9) (N := some 54) (v := ?_) (a' := ?_) #[true, true, true, true, false, true, true, true, true, true, false, false, false, false, false, false, false, false, false, false] rfl rfl (any_of HT_.out (by kernel_rfl)) (fun _ _ _ h => h) (Or.inl ⟨by rfl, ?_⟩) ?_ ?_
                                  rotate_left
                                  · intro w'
                                    go_simp
                                    with_reducible rfl
                                  rotate_left
                                  · simp only [Act.put, List.setIfInBounds_toArray, List.set_cons_zero, List.set_cons_succ, i64_w, i32_w]
                                    rfl
                                  refine pure_ (i := 10) (N := some 55) (v := ?_) (a' := ?_) #[true, true, true, true, false, true, true, true, true, true, true, false, false, false, false, false, false, false, false, false] rfl rfl (any_of HT_.out (by kernel_rfl)) (fun _ _ _ h => h) (Or.inl ⟨by rfl, ?_⟩) ?_ ?_
                                  rotate_left
                                  · intro w'
                                    go_simp
                                    with_reducible rfl
                                  rotate_left
                                  · simp only [Act.put, List.setIfInBounds_toArray, List.set_cons_zero, List.set_cons_succ, i64_w, i32_w]
                                    rfl
                                  refine pure_ (i := 11) (N := some 56) (v := ?_) (a' := ?_) #[true, true, true, true, false, true, true, true, true, true, true, true, false, false, false, false, false, false, false, false] rfl rfl (any_of HT_.out (by kernel_rfl)) (fun _ _ _ h => h) (Or.inl ⟨by rfl, ?_⟩) ?_ ?_
                                  rotate_left
                                  · intro w'
                                    go_simp
                                    with_reducible rfl
                                  rotate_left
                                  · simp only [Act.put, List.setIfInBounds_toArray, List.set_cons_zero, List.set_cons_succ, i64_w, i32_w]
                                    rfl
                                  refine pure_ (i := 12) (N := some 57) (v := ?_) (a' := ?_) #[true, true, true, true, false, true, true, true, true, true, true, true, true, false, false, false, false, false, false, false] rfl rfl (any_of HT_.out (by kernel_rfl)) (fun _ _ _ h => h) (Or.inl ⟨by rfl, ?_⟩) ?_ ?_
                                  rotate_left
                                  · intro w'
                                    go_simp
                                    with_reducible rfl
                                  rotate_left
                                  · simp only [Act.put, List.setIfInBounds_toArray, List.set_cons_zero, List.set_cons_succ, i64_w, i32_w]
                                    rfl
                                  refine pure_ (i := 13) (N := some 58) (v := ?_) (a' := ?_) #[true, true, true, true, false, true, true, true, true, true, true, true, true, true, false, false, false, false, false, false] rfl rfl (any_of HT_.out (by kernel_rfl)) (fun _ _ _ h => h) (Or.inl ⟨by rfl, ?_⟩) ?_ ?_
                                  rotate_left
                                  · intro w'
                                    go_simp
                                    with_reducible rfl
                                  rotate_left
                                  · simp only [Act.put, List.setIfInBounds_toArray, List.set_cons_zero, List.set_cons_succ, i64_w, i32_w]
                                    rfl
                                  refine pure_ (i := 14) (N := some 59) (v := ?_) (a' := ?_) #[true, true, true, true, false, true, true, true, true, true, true, true, true, true, true, false, false, false, false, false] rfl rfl (any_of HT_.out (by kernel_rfl)) (fun _ _ _ h => h) (Or.inl ⟨by rfl, ?_⟩) ?_ ?_
                                  rotate_left
                                  · intro w'
                                    go_simp
                                    with_reducible rfl
                                  rotate_left
                                  · simp only [Act.put, List.setIfInBounds_toArray, List.set_cons_zero, List.set_cons_succ, i64_w, i32_w]
                                    rfl
                                  refine pure_ (i := 15) (N := some 60) (v := ?_) (a' := ?_) #[true, true, true, true, false, true, true, true, true, true, true, true, true, true, true, true, false, false, false, false] rfl rfl (any_of HT_.out (by kernel_rfl)) (fun _ _ _ h => h) (Or.inl ⟨by rfl, ?_⟩) ?_ ?_
                                  rotate_left
                                  · intro w'
                                    go_simp
                                    with_reducible rfl
                                  rotate_left
                                  · simp only [Act.put, List.setIfInBounds_toArray, List.set_cons_zero, List.set_cons_succ, i64_w, i32_w]
                                    rfl
                                  refine pure_ (i := 16) (N := some 61) (v := ?_) (a' := ?_) #[true, true, true, true, false, true, true, true, true, true, true, true, true, true, true, true, true, false, false, false] rfl rfl (any_of HT_.out (by kernel_rfl)) (fun _ _ _ h => h) (Or.inl ⟨by rfl, ?_⟩) ?_ ?_
                                  rotate_left
                                  · intro w'
                                    go_simp
                                    with_reducible rfl
                                  rotate_left
                                  · simp only [Act.put, List.setIfInBounds_toArray, List.set_cons_zero, List.set_cons_succ, i64_w, i32_w]
                                    rfl
                                  refine take_ (i := 4) (N := some 49) (v := ?_) (a' := ?_) #[true, true, true, true, true, true, true, true, true, true, true, true, true, true, true, true, true, false, false, false] rfl rfl (take_ofW HT_.out HW_.out (by kernel_rfl)) (fun _ _ _ h => h) (Or.inl ⟨by rfl, ?_⟩) hHeld ?_ ?_
                                  rotate_left
                                  · rintro w' ⟨s0, s1⟩
                                    go_simp
                                    with_reducible rfl
                                  rotate_left
                                  · simp only [Act.put, List.setIfInBounds_toArray, List.set_cons_zero, List.set_cons_succ, i64_w, i32_w]
                                    rfl
                                  refine pure_ (i := 17) (N := some 62) (v := ?_) (a' := ?_) #[true, true, true, true, true, true, true, true, true, true, true, true, true, true, true, true, true, true, false, false] rfl rfl (any_of HT_.out (by kernel_rfl)) (fun _ _ _ h => h) (Or.inl ⟨by rfl, ?_⟩) ?_ ?_
                                  rotate_left
                                  · intro w'
                                    go_simp
                                    with_reducible rfl
                                  rotate_left
                                  · simp only [Act.put, List.setIfInBounds_toArray, List.set_cons_zero, List.set_cons_succ, i64_w, i32_w]
                                    rfl
                                  refine pure_ (i := 18) (N := some 63) (v := ?_) (a' := ?_) #[true, true, true, true, true, true, true, true, true, true, true, true, true, true, true, true, true, true, true, false] rfl rfl (any_of HT_.out (by kernel_rfl)) (fun _ _ _ h => h) (Or.inl ⟨by rfl, ?_⟩) ?_ ?_
                                  rotate_left
                                  · intro w'
                                    go_simp
                                    with_reducible rfl
                                  rotate_left
                                  · simp only [Act.put, List.setIfInBounds_toArray, List.set_cons_zero, List.set_cons_succ, i64_w, i32_w]
                                    rfl
                                  refine last_ (i := 19) (N := none) #[true, true, true, true, true, true, true, true, true, true, true, true, true, true, true, true, true, true, true, true] rfl rfl (one_of HT_.out (by kernel_rfl)) (by decide) (fun K hK => ?_)
                                  refine skip_ (w1 := ?_) (by rfl) rfl ?_ ?_
                                  rotate_left
                                  · go_simp
                                    rfl
                                  refine hK.out _ _ ?_
                                  clear hK K
                                  refine done_ (done_of HT_.out (by kernel_rfl)) ?_
                                  try go_wp2
                                  go_roundg k2
                                  case measure => have := HK1.out; have := HK2.out; omega
                                  case rel => (try simp only [hji23v]); exact ⟨(y111), (wrap64 (x38_2 + 1)), (by first | rfl | (simp; done) | (simp [*]; done)), H', ⟨by have := HK1.out; have := HK2.out; omega⟩, ⟨by (with_reducible repeat (first | apply Kd.R_alloc | apply Kd.R_drewN | apply Kd.R_drew)); exact HQ27.out⟩, ⟨by repeat (first | (with_reducible first | exact HB.out | apply below_alloc | apply pw_below_drewN | apply below_drew1 | refine below_set ?_ GB24.out) | exact HB.out)⟩⟩
                                · rw [if_neg c22] at H
                                  exact absurd H (by simp)
                              · rw [if_neg c19] at H
                                exact absurd H (by simp)
                            · rw [if_neg c17] at H
                              exact absurd H (by simp)
                          · rw [if_neg c16] at H
                            exact absurd H (by simp)
                        · rw [if_neg c14] at H
                          have c14b0 : decide (x38_2 < a0) = false := decide_eq_false c14
                          clear c14
                          have H' := Aside0.mk H
                          clear H
                          go_wp2
                          go_roundg k2
                          case measure => have := HK1.out; have := HK2.out; omega
                          case rel => exact ⟨(x10_2), (wrap64 (x32_1 + 1)), (by first | rfl | (simp; done) | (simp [*]; done)), H', ⟨by have := HK1.out; have := HK2.out; omega⟩, ⟨by (with_reducible repeat (first | apply Kd.R_alloc | apply Kd.R_drewN | apply Kd.R_drew)); exact HO_10.out⟩, ⟨by repeat (first | (with_reducible first | exact HB.out | apply below_alloc | apply pw_below_drewN | apply below_drew1) | exact HB.out)⟩⟩
                  · rw [if_neg c13] at H
                    exact absurd H (by simp)
                · rw [if_neg c12] at H
                  exact absurd H (by simp)
              · rw [if_neg c11] at H
                have c11b0 : decide (x32_1 < (l1.length : Int)) = false := decide_eq_false c11
                clear c11
                simp only [Option.some.injEq, Prod.mk.injEq] at H
                obtain ⟨rfl, rfl⟩ := H
                go_wp2
                go_ret2
                exact ⟨_, by first | rfl | (simp [errW_none, errW_some] <;> rfl) | (simp [*, errW_none, errW_some] <;> rfl), Kd.R_lower (by (with_reducible repeat (first | apply Kd.R_alloc | apply Kd.R_drewN | apply Kd.R_drew)); exact HO_10.out) HWB.out.size, below_step HWB.out (by repeat (first | (with_reducible first | exact HB.out | apply below_alloc | apply pw_below_drewN | apply below_drew1) | exact HB.out))⟩
        · rw [if_neg c8] at H
          exact absurd H (by simp)
      · rw [if_neg c7] at H
        exact absurd H (by simp)
  · rw [if_neg c4] at H
    have c4b0 : (t104 == 0) = false := beq_eq_false_iff_ne.mpr c4
    have c4b1 : (t104 != 0) = true := bne_iff_ne.mpr c4
    simp only [Option.some.injEq, Prod.mk.injEq] at H
    obtain ⟨rfl, rfl⟩ := H
    go_enter Try.func54, Try.ntmps54
    go_wp2_with (first | ((with_reducible refine gate_callee (f := 31) rfl ?_); generalize hw_ : wo.alloc (Obj.cells #[.int .i64 a0] 3) = w; have HW1 := Aside0.mk (box_cell hw_); have HWB := Aside0.mk (box_below hw_); have HR2 := Aside0.mk (box_C hw_ HR1.out); have HP2 := Aside0.mk (box_at hw_ HP.out); clear HR1 HP hw_; have HR1 := HR2; have HP := HP2; clear HR2 HP2; have HB := Aside0.mk (Below.refl w.heap.size w); refine goesL_ (some 19) rfl rfl Try.func31 (by kernel_rfl) rfl #[.int .i64 a0, .int .i64 (l1.length : Int)] rfl (by (try simp only [List.map_toArray, List.map_cons, List.map_nil]); first | done | rfl | (simp only [List.length_drop, List.length_take]; rfl)) ?_; (with_reducible refine (plane_Bytes.calls k a0 (l1.length : Int) t103 t104 _ A3.out).mono ?_); rintro e w' ⟨rfl, ⟨nd, rfl⟩⟩; refine ⟨_, rfl, ?_⟩))
    go_ret2
    exact ⟨_, by first | rfl | (simp [errW_none, errW_some] <;> rfl) | (simp [*, errW_none, errW_some] <;> rfl), by first | exact Kd.R_nil _ _ _ _ _ | exact Kd.N_nil _ _ _ _ _ | exact Kd.V_nil _ _ _ _ _ | exact Kd.Q_nil _ _ _ _ _ | exact Kd.S_nil _ _ _ _ _, below_step HWB.out (by repeat (first | (with_reducible first | exact HB.out | apply below_alloc | apply pw_below_drewN | apply below_drew1) | exact HB.out))⟩

set_option maxHeartbeats 8000000 in
set_option maxRecDepth 100000 in
theorem plane_Pack.calls (k : Nat) (a0 : Int) (A1 : Option Addr) (c1 : Nat) (l1 : List Int) (r1 : List Int) (r2 : Int) (w : World) (hr1 : Kd.C (Kd.int .u64) w A1 l1.length l1) (hc1 : l1.length ≤ c1) (h : plane_Pack.f k a0 l1 = some (r1, r2)) :
    Calls Try.prog 13 #[.int .i64 a0, .slice A1 l1.length c1] w fun e w' => ∃ v0_ : Value, e = .returned (.tuple #[v0_, .int .i64 r2]) ∧ Kd.R (Kd.int .u8) 5 w' w.heap.size (fun _ => True) v0_ r1 ∧ Below w.heap.size w w' := by
  have HR1 := Aside0.mk hr1
  have HC1 := Aside0.mk hc1
  have HH := Aside0.mk h
  clear hr1 hc1 h
  go_enter Try.func13, Try.ntmps13
  go_wp2_with (first | ((with_reducible refine gate_callee (f := 55) rfl ?_); refine goesL_ (some 9) rfl rfl Try.func55 (by kernel_rfl) rfl #[.int .i64 a0] rfl (by (try simp only [List.map_toArray, List.map_cons, List.map_nil]); first | done | rfl) ?_; refine (side.calls a0 _).mono ?_; rintro e w1 ⟨p0, rfl, hp0, hb0⟩; refine ⟨_, rfl, ?_⟩; have HP0 := Aside0.mk hp0; have HB0 := Aside0.mk hb0; clear hp0 hb0) | ((with_reducible refine gate_callee (f := 54) rfl ?_); refine goesL_ (some 10) rfl rfl Try.func54 (by kernel_rfl) rfl #[.int .i64 a0, .slice A1 l1.length c1, .func (.func 74) #[] #[.pointer (some p0)]] rfl (by (try simp only [List.map_toArray, List.map_cons, List.map_nil]); first | done | rfl) ?_; refine (plane_Pack_put.calls k a0 A1 c1 l1 r1 r2 p0 _ (Kd.C_below HR1.out HB0.out) HC1.out HP0.out HH.out).mono ?_; rintro e w2 ⟨v0, rfl, ho0, hb1⟩; refine ⟨_, rfl, ?_⟩; have HO := Aside0.mk (Kd.R_lower ho0 HB0.out.size); have HB := Aside0.mk (below_step HB0.out hb1); clear ho0 hb1))
  go_ret2
  exact ⟨_, rfl, HO.out, HB.out⟩

/-! ### plane_Weave: function 15 -/
mutual
def plane_Weave.l0 : Nat → Int → List Int → List Int → Int → Int → Option (List Int × Int)
  | 0, _, _, _, _, _ => none
  | k + 1, x3, x10, x30, x31, x32 => if x32 < x31 then (if 0 ≤ x32 then (if x32 < (x30.length : Int) then (plane_Weave.l1 k x3 x10 x32 (rd x30 x32) x30 x31 x32 x3 0) else (none)) else (none)) else (some (x10, 0))
def plane_Weave.l1 : Nat → Int → List Int → Int → Int → List Int → Int → Int → Int → Int → Option (List Int × Int)
  | 0, _, _, _, _, _, _, _, _, _ => none
  | k + 1, x3, x10, x11, x12, x30, x31, x32, x37, x38 => if x38 < x37 then (if 0 ≤ ((wrap64 ((wrap64 (x38 * x31)) + x11)) / 8) then (if ((wrap64 ((wrap64 (x38 * x31)) + x11)) / 8) < (x10.length : Int) then (if 0 ≤ (wrap64 ((wrap64 (x3 - 1)) - x38)) then (if 0 ≤ (wrap64 (7 - (Go.bits .and .i64 (wrap64 ((wrap64 (x38 * x31)) + x11)) 7))) then (plane_Weave.l1 k x3 (x10.set (((wrap64 ((wrap64 (x38 * x31)) + x11)) / 8) : Int).toNat (Go.bits .or .u8 (rd x10 ((wrap64 ((wrap64 (x38 * x31)) + x11)) / 8)) (shl .u8 ((Go.bits .and .u64 (shr .u64 x12 (wrap64 ((wrap64 (x3 - 1)) - x38))) 1) % 256) (wrap64 (7 - (Go.bits .and .i64 (wrap64 ((wrap64 (x38 * x31)) + x11)) 7)))))) x11 x12 x30 x31 x32 x37 (wrap64 (x38 + 1))) else (none)) else (none)) else (none)) else (none)) else (plane_Weave.l0 k x3 x10 x30 x31 (wrap64 (x32 + 1)))
end
def plane_Weave.f (k : Nat) (a0 : Int) (l1 : List Int) : Option (List Int × Int) := (plane_Bytes.f k a0 (l1.length : Int)).bind fun bt112 => (if bt112.2 = 0 then ((slices_ContainsFunc_uint64_uint64.f k l1 a0).bind fun t114 => (if t114 = true then (some (([] : List Int), 1)) else (if 0 ≤ bt112.1 then (if (bt112.1 : Int).toNat ≤ 281474976710656 then (plane_Weave.l0 k a0 (List.replicate (bt112.1 : Int).toNat 0) l1 (l1.length : Int) 0) else (none)) else (none)))) else (some (([] : List Int), bt112.2)))
theorem plane_Weave.mono_l : ∀ k, (∀ y0 y1 y2 y3 y4, LeO (plane_Weave.l0 k y0 y1 y2 y3 y4) (plane_Weave.l0 (k + 1) y0 y1 y2 y3 y4)) ∧ (∀ y0 y1 y2 y3 y4 y5 y6 y7 y8, LeO (plane_Weave.l1 k y0 y1 y2 y3 y4 y5 y6 y7 y8) (plane_Weave.l1 (k + 1) y0 y1 y2 y3 y4 y5 y6 y7 y8))
  | 0 => ⟨fun _ _ _ _ _ r h => by simp [plane_Weave.l0] at h, fun _ _ _ _ _ _ _ _ _ r h => by simp [plane_Weave.l1] at h⟩
  | k + 1 => by
    obtain ⟨ih0, ih1⟩ := plane_Weave.mono_l k
    refine ⟨?_, ?_⟩
    · intro y0 y1 y2 y3 y4
      unfold plane_Weave.l0
      repeat' first
      | (with_reducible exact ih0 _ _ _ _ _)
      | (with_reducible exact ih1 _ _ _ _ _ _ _ _ _)
      | (with_reducible exact plane_Bytes.mono _ _ _)
      | (with_reducible exact slices_ContainsFunc_uint64_uint64.mono _ _ _)
      | (with_reducible exact LeO.refl _)
      | (with_reducible exact LeO.none _)
      | (with_reducible refine LeO.ite ?_ ?_)
      | (with_reducible refine LeO.bind ?_ (fun _ => ?_))
      | exact ih0 _ _ _ _ _
      | exact ih1 _ _ _ _ _ _ _ _ _
      | exact plane_Bytes.mono _ _ _
      | exact slices_ContainsFunc_uint64_uint64.mono _ _ _
      | exact LeO.none _
      | refine LeO.ite ?_ ?_
      | refine LeO.bind ?_ (fun _ => ?_)
    · intro y0 y1 y2 y3 y4 y5 y6 y7 y8
      unfold plane_Weave.l1
      repeat' first
      | (with_reducible exact ih0 _ _ _ _ _)
      | (with_reducible exact ih1 _ _ _ _ _ _ _ _ _)
      | (with_reducible exact plane_Bytes.mono _ _ _)
      | (with_reducible exact slices_ContainsFunc_uint64_uint64.mono _ _ _)
      | (with_reducible exact LeO.refl _)
      | (with_reducible exact LeO.none _)
      | (with_reducible refine LeO.ite ?_ ?_)
      | (with_reducible refine LeO.bind ?_ (fun _ => ?_))
      | exact ih0 _ _ _ _ _
      | exact ih1 _ _ _ _ _ _ _ _ _
      | exact plane_Bytes.mono _ _ _
      | exact slices_ContainsFunc_uint64_uint64.mono _ _ _
      | exact LeO.none _
      | refine LeO.ite ?_ ?_
      | refine LeO.bind ?_ (fun _ => ?_)
theorem plane_Weave.mono : ∀ a0 a1 k, LeO (plane_Weave.f k a0 a1) (plane_Weave.f (k + 1) a0 a1) := by
  intro a0 a1 k
  obtain ⟨ih0, ih1⟩ := plane_Weave.mono_l k
  unfold plane_Weave.f
  repeat' first
      | (with_reducible exact ih0 _ _ _ _ _)
      | (with_reducible exact ih1 _ _ _ _ _ _ _ _ _)
      | (with_reducible exact plane_Bytes.mono _ _ _)
      | (with_reducible exact slices_ContainsFunc_uint64_uint64.mono _ _ _)
      | (with_reducible exact LeO.refl _)
      | (with_reducible exact LeO.none _)
      | (with_reducible refine LeO.ite ?_ ?_)
      | (with_reducible refine LeO.bind ?_ (fun _ => ?_))
      | exact ih0 _ _ _ _ _
      | exact ih1 _ _ _ _ _ _ _ _ _
      | exact plane_Bytes.mono _ _ _
      | exact slices_ContainsFunc_uint64_uint64.mono _ _ _
      | exact LeO.none _
      | refine LeO.ite ?_ ?_
      | refine LeO.bind ?_ (fun _ => ?_)
def plane_Weave.T14 : Bool × List (List Nat × List Nat) := (true, [([], []), ([], []), ([1], [1]), ([0, 2], [0, 2]), ([3], [3]), ([], []), ([], []), ([6], [6]), ([], []), ([7, 8], [7, 8]), ([5, 9], [5, 9]), ([10], [10]), ([11], [11]), ([], []), ([13], [13]), ([14], [14]), ([12, 15], [12, 15]), ([4, 16], [4, 16]), ([0, 2, 0, 1, 2, 3, 4, 5, 6, 7, 8, 9, 10, 11, 12, 13, 14, 15, 16, 17], [0, 2]), ([18, 17, 0, 1, 2, 3, 4, 5, 6, 7, 8, 9, 10, 11, 12, 13, 14, 15, 16, 17], [17, 18])])
def plane_Weave.B14 : List Nat := [0, 0, 2, 7, 15, 0, 0, 64, 0, 448, 992, 2016, 4064, 0, 8192, 24576, 65504, 131071, 262143, 524287]
theorem plane_Weave.tab14 : rtab .any (opsOf Try.f54 14) = plane_Weave.T14 := by kernel_rfl
theorem plane_Weave.bits14 : waitsOk plane_Weave.T14.2 plane_Weave.B14 = true := by kernel_rfl
set_option maxHeartbeats 8000000 in
set_option maxRecDepth 100000 in
theorem plane_Weave_put.calls (k : Nat) (a0 : Int) (A1 : Option Addr) (c1 : Nat) (l1 : List Int) (r1 : List Int) (r2 : Int) (p0 : Addr) (wo : World) (hr1 : Kd.C (Kd.int .u64) wo A1 l1.length l1) (hc1 : l1.length ≤ c1) (hp : wo.cell? p0 = some (.int .i64 (l1.length : Int))) (h : plane_Weave.f k a0 l1 = some (r1, r2)) :
    Calls Try.prog 54 #[.int .i64 a0, .slice A1 l1.length c1, .func (.func 75) #[] #[.pointer (some p0)]] wo fun e w' => ∃ v0_ : Value, e = .returned (.tuple #[v0_, .int .i64 r2]) ∧ Kd.R (Kd.int .u8) 5 w' wo.heap.size (fun _ => True) v0_ r1 ∧ Below wo.heap.size wo w' := by
  have HR1 := Aside0.mk hr1
  have HC1 := Aside0.mk hc1
  have HP := Aside0.mk hp
  clear hr1 hc1 hp
  have hmf : ∀ (fn : Fn) (first cap : Array Value) (w : World), (Instr.makeFunc fn first cap).run Try.prog w = .ok (.func fn first cap) w := fun _ _ _ _ => rfl
  have H : ((plane_Bytes.f k a0 (l1.length : Int)).bind fun bt112 => (if bt112.2 = 0 then ((slices_ContainsFunc_uint64_uint64.f k l1 a0).bind fun t114 => (if t114 = true then (some (([] : List Int), 1)) else (if 0 ≤ bt112.1 then (if (bt112.1 : Int).toNat ≤ 281474976710656 then (plane_Weave.l0 k a0 (List.replicate (bt112.1 : Int).toNat 0) l1 (l1.length : Int) 0) else (none)) else (none)))) else (some (([] : List Int), bt112.2)))) = some (r1, r2) := h
  clear h
  replace H := Option.bind_eq_some_iff.mp H
  obtain ⟨⟨t112, t113⟩, A30, H⟩ := H
  replace H : (if t113 = 0 then ((slices_ContainsFunc_uint64_uint64.f k l1 a0).bind fun t114 => (if t114 = true then (some (([] : List Int), 1)) else (if 0 ≤ t112 then (if (t112 : Int).toNat ≤ 281474976710656 then (plane_Weave.l0 k a0 (List.replicate (t112 : Int).toNat 0) l1 (l1.length : Int) 0) else (none)) else (none)))) else (some (([] : List Int), t113))) = some (r1, r2) := H
  have A3 := Aside0.mk A30
  clear A30
  by_cases c4 : t113 = 0
  · rw [if_pos c4] at H
    have c4b0 : (t113 == 0) = true := beq_iff_eq.mpr c4
    have c4b1 : (t113 != 0) = false := bne_eq_false_iff_eq.mpr c4
    clear c4
    replace H := Option.bind_eq_some_iff.mp H
    obtain ⟨t114, A50, H⟩ := H
    replace H : (if t114 = true then (some (([] : List Int), 1)) else (if 0 ≤ t112 then (if (t112 : Int).toNat ≤ 281474976710656 then (plane_Weave.l0 k a0 (List.replicate (t112 : Int).toNat 0) l1 (l1.length : Int) 0) else (none)) else (none))) = some (r1, r2) := H
    have A5 := Aside0.mk A50
    clear A50
    by_cases c6 : t114 = true
    · subst c6
      have H1 : (some (([] : List Int), 1)) = some (r1, r2) := by first | (rw [if_pos rfl] at H; exact H) | (rw [if_pos True.intro] at H; exact H)
      clear H
      have H := H1
      clear H1
      simp only [Option.some.injEq, Prod.mk.injEq] at H
      obtain ⟨rfl, rfl⟩ := H
      go_enter Try.func54, Try.ntmps54
      go_wp2_with (first | ((with_reducible refine gate_callee (f := 31) rfl ?_); generalize hw_ : wo.alloc (Obj.cells #[.int .i64 a0] 3) = w; have HW1 := Aside0.mk (box_cell hw_); have HWB := Aside0.mk (box_below hw_); have HR2 := Aside0.mk (box_C hw_ HR1.out); have HP2 := Aside0.mk (box_at hw_ HP.out); clear HR1 HP hw_; have HR1 := HR2; have HP := HP2; clear HR2 HP2; have HB := Aside0.mk (Below.refl w.heap.size w); refine goesL_ (some 19) rfl rfl Try.func31 (by kernel_rfl) rfl #[.int .i64 a0, .int .i64 (l1.length : Int)] rfl (by (try simp only [List.map_toArray, List.map_cons, List.map_nil]); first | done | rfl | (simp only [List.length_drop, List.length_take]; rfl)) ?_; (with_reducible refine (plane_Bytes.calls k a0 (l1.length : Int) t112 t113 _ A3.out).mono ?_); rintro e w' ⟨rfl, ⟨nd, rfl⟩⟩; refine ⟨_, rfl, ?_⟩) | ((with_reducible refine gate_callee (f := 72) rfl ?_); refine goesL_ (some 27) rfl rfl Try.func72 (by kernel_rfl) rfl #[.slice A1 l1.length c1, .func (.func 73) #[] #[.pointer (some ⟨wo.heap.size, 0, none⟩)]] rfl (by (try simp only [List.map_toArray, List.map_cons, List.map_nil]); first | done | rfl | (simp only [List.length_drop, List.length_take]; rfl)) ?_; (with_reducible refine (slices_ContainsFunc_uint64_uint64.calls k _ _ l1 a0 ⟨wo.heap.size, 0, none⟩ true _ ?side1 ?side2 ?side3 A5.out).mono ?_); (case side1 => repeat (first | exact HR1.out | (with_reducible refine Kd.C_alloc ?_ _) | (with_reducible refine Kd.C_drewN ?_ _) | (with_reducible refine Kd.C_drew ?_))); (case side2 => exact HC1.out); (case side3 => exact HW1.out); rintro e w' ⟨rfl, ⟨nd, rfl⟩⟩; refine ⟨_, rfl, ?_⟩))
      go_ret2
      exact ⟨_, by first | rfl | (simp [errW_none, errW_some] <;> rfl) | (simp [*, errW_none, errW_some] <;> rfl), by first | exact Kd.R_nil _ _ _ _ _ | exact Kd.N_nil _ _ _ _ _ | exact Kd.V_nil _ _ _ _ _ | exact Kd.Q_nil _ _ _ _ _ | exact Kd.S_nil _ _ _ _ _, below_step HWB.out (by repeat (first | (with_reducible first | exact HB.out | apply below_alloc | apply pw_below_drewN | apply below_drew1) | exact HB.out))⟩
    · replace c6 := Bool.eq_false_iff.mpr c6
      subst c6
      have H1 : (if 0 ≤ t112 then (if (t112 : Int).toNat ≤ 281474976710656 then (plane_Weave.l0 k a0 (List.replicate (t112 : Int).toNat 0) l1 (l1.length : Int) 0) else (none)) else (none)) = some (r1, r2) := by rw [if_neg (show ¬ (false = true) by decide)] at H; exact H
      clear H
      have H := H1
      clear H1
      by_cases c7 : 0 ≤ t112
      · rw [if_pos c7] at H
        have c7b0 := eq_true c7
        have c7b1 : decide (0 ≤ t112) = true := decide_eq_true c7
        clear c7
        by_cases c8 : (t112 : Int).toNat ≤ 281474976710656
        · rw [if_pos c8] at H
          have c8b0 := eq_true c8
          have c8b1 : decide ((t112 : Int).toNat ≤ 281474976710656) = true := decide_eq_true c8
          clear c8
          obtain ⟨y115, hy115⟩ : ∃ y_ : List Int, y_ = (List.replicate (t112 : Int).toNat 0) := ⟨_, rfl⟩
          replace H : (plane_Weave.l0 k a0 y115 l1 (l1.length : Int) 0) = some (r1, r2) := by first | (rw [hy115]; with_reducible exact H) | (have H2_ := (Option.bind_some _ _).symm.trans H; rw [hy115]; with_reducible exact H2_) | (have H2_ := (Option.bind_some _ _).symm.trans H; with_reducible exact H2_) | with_reducible exact H | (rw [hy115]; exact H) | exact H
          have Ny115 := Aside0.mk hy115
          clear hy115
          have H' := Aside0.mk H
          clear H
          go_enter Try.func54, Try.ntmps54
          go_wp2_with (first | ((with_reducible refine gate_callee (f := 31) rfl ?_); generalize hw_ : wo.alloc (Obj.cells #[.int .i64 a0] 3) = w; have HW1 := Aside0.mk (box_cell hw_); have HWB := Aside0.mk (box_below hw_); have HR2 := Aside0.mk (box_C hw_ HR1.out); have HP2 := Aside0.mk (box_at hw_ HP.out); clear HR1 HP hw_; have HR1 := HR2; have HP := HP2; clear HR2 HP2; have HB := Aside0.mk (Below.refl w.heap.size w); refine goesL_ (some 19) rfl rfl Try.func31 (by kernel_rfl) rfl #[.int .i64 a0, .int .i64 (l1.length : Int)] rfl (by (try simp only [List.map_toArray, List.map_cons, List.map_nil]); first | done | rfl | (simp only [List.length_drop, List.length_take]; rfl)) ?_; (with_reducible refine (plane_Bytes.calls k a0 (l1.length : Int) t112 t113 _ A3.out).mono ?_); rintro e w' ⟨rfl, ⟨nd, rfl⟩⟩; refine ⟨_, rfl, ?_⟩) | ((with_reducible refine gate_callee (f := 72) rfl ?_); refine goesL_ (some 27) rfl rfl Try.func72 (by kernel_rfl) rfl #[.slice A1 l1.length c1, .func (.func 73) #[] #[.pointer (some ⟨wo.heap.size, 0, none⟩)]] rfl (by (try simp only [List.map_toArray, List.map_cons, List.map_nil]); first | done | rfl | (simp only [List.length_drop, List.length_take]; rfl)) ?_; (with_reducible refine (slices_ContainsFunc_uint64_uint64.calls k _ _ l1 a0 ⟨wo.heap.size, 0, none⟩ false _ ?side1 ?side2 ?side3 A5.out).mono ?_); (case side1 => repeat (first | exact HR1.out | (with_reducible refine Kd.C_alloc ?_ _) | (with_reducible refine Kd.C_drewN ?_ _) | (with_reducible refine Kd.C_drew ?_))); (case side2 => exact HC1.out); (case side3 => exact HW1.out); rintro e w' ⟨rfl, ⟨nd, rfl⟩⟩; refine ⟨_, rfl, ?_⟩) | ((with_reducible refine gate_dst (N := 29) rfl ?_); refine Kd.R_make (Kd.int .u8) _ 5 rfl (N := 29) rfl 26 _ _ rfl t112 rfl rfl Try.underlying26 (.int .u8 0) 1 info5 rfl (by decide) (by omega) 0 (ok := fun _ => True) (okp := fun _ => True) rfl (fun _ hk => hk) trivial (of_decide_eq_true (by first | (with_reducible assumption) | assumption)) (Nat.le_trans (Nat.mul_le_mul_right _ (of_decide_eq_true (by first | (with_reducible assumption) | assumption) : t112.toNat ≤ 281474976710656)) (by omega)) (Below.refl _ _) (Nat.le_refl _) ?_; intro v116 w9 ho10 hb hg_ hnew_; clear hg_ hnew_; (first | rw [← Ny115.out] at ho10 | (simp only [Int.reduceToNat] at ho10; rw [← Ny115.out] at ho10)); have n0_ := Aside0.mk (Kd.R_lower ho10 (below_size (by repeat (first | (with_reducible first | exact HB.out | apply below_alloc | apply pw_below_drewN | apply below_drew1) | exact HB.out)))); have n1_ := Aside0.mk (below_step (by repeat (first | (with_reducible first | exact HB.out | apply below_alloc | apply pw_below_drewN | apply below_drew1) | exact HB.out)) hb); clear HB; have HO117 := n0_; have HB := n1_; clear n0_ n1_; clear hb ho10))
          go_loopg [32] k (fun kq v32 w' => ∃ (x10_1 : List Int) (x32_1 : Int), v32 = .int .i64 x32_1 ∧ Aside0 (plane_Weave.l0 kq a0 x10_1 l1 (l1.length : Int) x32_1 = some (r1, r2)) ∧ Aside0 (kq ≤ k) ∧ Aside0 (Kd.R (Kd.int .u8) 5 w' w.heap.size (fun _ => True) v116 x10_1) ∧ Aside0 (Below w.heap.size w w'))
          case atStart => exact ⟨(y115), (0), (by first | rfl | (simp; done) | (simp [*]; done)), H', ⟨Nat.le_refl _⟩, ⟨by (with_reducible repeat (first | apply Kd.R_alloc | apply Kd.R_drewN | apply Kd.R_drew)); exact HO117.out⟩, ⟨by repeat (first | (with_reducible first | exact HB.out | apply below_alloc | apply pw_below_drewN | apply below_drew1) | exact HB.out)⟩⟩
          case round =>
            clear H'
            try clear c1
            try clear p2
            try clear c3
            try clear c4
            try clear c4b0
            try clear c4b1
            try clear c6
            try clear c7
            try clear c7b0
            try clear c7b1
            try clear c8
            try clear c8b0
            try clear c8b1
            obtain ⟨x10_1, x32_1, rfl, HA, HK1, HO_10, HB⟩ := hrel
            cases gk with
            | zero => exact absurd HA.out (by simp [plane_Weave.l0])
            | succ k1 =>
              have H := HA.out
              clear HA
              simp only [plane_Weave.l0] at H
              by_cases c11 : x32_1 < (l1.length : Int)
              · rw [if_pos c11] at H
                have c11b0 : decide (x32_1 < (l1.length : Int)) = true := decide_eq_true c11
                clear c11
                by_cases c12 : 0 ≤ x32_1
                · rw [if_pos c12] at H
                  have c12b0 : decide (0 ≤ x32_1) = true := decide_eq_true c12
                  clear c12
                  by_cases c13 : x32_1 < (l1.length : Int)
                  · rw [if_pos c13] at H
                    have c13b0 : decide (x32_1 < (l1.length : Int)) = true := decide_eq_true c13
                    clear c13
                    have H' := Aside0.mk H
                    clear H
                    have p118 : 0 ≤ (x32_1 : Int) := of_decide_eq_true (by first | (with_reducible assumption) | assumption)
                    have q118 : x32_1 < (l1.length : Int) := of_decide_eq_true (by first | (with_reducible assumption) | assumption)
                    obtain ⟨ad118, e118, hx118_0⟩ := Kd.at_int HR1.out x32_1 p118 q118
                    cases e118
                    replace hx118_0 := (HB.out.cell (World.block_lt_of_cell? w _ hx118_0)).trans hx118_0
                    replace p118 := eq_true p118
                    replace q118 := eq_true q118
                    have hbx_ := (HB.out.cell (World.block_lt_of_cell? w _ HW1.out)).trans HW1.out
                    go_wp2
                    go_loopg [38] k1 (fun kq v38 w' => ∃ (x10_2 : List Int) (x38_2 : Int), v38 = .int .i64 x38_2 ∧ Aside0 (plane_Weave.l1 kq a0 x10_2 x32_1 (rd l1 x32_1) l1 (l1.length : Int) x32_1 a0 x38_2 = some (r1, r2)) ∧ Aside0 (kq ≤ k1) ∧ Aside0 (Kd.R (Kd.int .u8) 5 w' w.heap.size (fun _ => True) v116 x10_2) ∧ Aside0 (Below w.heap.size w w'))
                    case atStart => exact ⟨(x10_1), (0), (by first | rfl | (simp; done) | (simp [*]; done)), H', ⟨Nat.le_refl _⟩, ⟨by (with_reducible repeat (first | apply Kd.R_alloc | apply Kd.R_drewN | apply Kd.R_drew)); exact HO_10.out⟩, ⟨by repeat (first | (with_reducible first | exact HB.out | apply below_alloc | apply pw_below_drewN | apply below_drew1) | exact HB.out)⟩⟩
                    case round =>
                      clear H'
                      try clear c1
                      try clear p1
                      try clear q1
                      try clear hx1
                      try clear p2
                      try clear c3
                      try clear c4
                      try clear c4b0
                      try clear c4b1
                      try clear c6
                      try clear c7
                      try clear c7b0
                      try clear c7b1
                      try clear c8
                      try clear c8b0
                      try clear c8b1
                      try clear c11
                      try clear c11b0
                      try clear p11
                      try clear q11
                      try clear hx11
                      try clear c12
                      try clear c12b0
                      try clear c13
                      try clear c13b0
                      try clear hx118_0
                      try clear p118
                      try clear p2
                      try clear q118
                      obtain ⟨x10_2, x38_2, rfl, HA, HK2, HO_10, HB⟩ := hrel
                      cases gk with
                      | zero => exact absurd HA.out (by simp [plane_Weave.l1])
                      | succ k2 =>
                        have H := HA.out
                        clear HA
                        simp only [plane_Weave.l1] at H
                        by_cases c14 : x38_2 < a0
                        · rw [if_pos c14] at H
                          have c14b0 : decide (x38_2 < a0) = true := decide_eq_true c14
                          clear c14
                          obtain ⟨ji15, hji15⟩ : ∃ j_ : Int, ((wrap64 ((wrap64 (x38_2 * (l1.length : Int))) + x32_1)) / 8) = j_ := ⟨_, rfl⟩
                          replace H : (if 0 ≤ (ji15) then (if (ji15) < (x10_2.length : Int) then (if 0 ≤ (wrap64 ((wrap64 (a0 - 1)) - x38_2)) then (if 0 ≤ (wrap64 (7 - (Go.bits .and .i64 (wrap64 ((wrap64 (x38_2 * (l1.length : Int))) + x32_1)) 7))) then (plane_Weave.l1 k2 a0 (x10_2.set ((ji15) : Int).toNat (Go.bits .or .u8 (rd x10_2 (ji15)) (shl .u8 ((Go.bits .and .u64 (shr .u64 (rd l1 x32_1) (wrap64 ((wrap64 (a0 - 1)) - x38_2))) 1) % 256) (wrap64 (7 - (Go.bits .and .i64 (wrap64 ((wrap64 (x38_2 * (l1.length : Int))) + x32_1)) 7)))))) x32_1 (rd l1 x32_1) l1 (l1.length : Int) x32_1 a0 (wrap64 (x38_2 + 1))) else (none)) else (none)) else (none)) else (none)) = some (r1, r2) := by first | (rw [hji15] at H; exact H) | (simp only [hji15] at H ⊢; exact H)
                          by_cases c16 : 0 ≤ (ji15)
                          · rw [if_pos c16] at H
                            have c16b0 : decide (0 ≤ (ji15)) = true := decide_eq_true c16
                            clear c16
                            by_cases c17 : (ji15) < (x10_2.length : Int)
                            · rw [if_pos c17] at H
                              have c17b0 : decide ((ji15) < (x10_2.length : Int)) = true := decide_eq_true c17
                              clear c17
                              obtain ⟨ji18, hji18⟩ : ∃ j_ : Int, (wrap64 ((wrap64 (a0 - 1)) - x38_2)) = j_ := ⟨_, rfl⟩
                              replace H : (if 0 ≤ (ji18) then (if 0 ≤ (wrap64 (7 - (Go.bits .and .i64 (wrap64 ((wrap64 (x38_2 * (l1.length : Int))) + x32_1)) 7))) then (plane_Weave.l1 k2 a0 (x10_2.set ((ji15) : Int).toNat (Go.bits .or .u8 (rd x10_2 (ji15)) (shl .u8 ((Go.bits .and .u64 (shr .u64 (rd l1 x32_1) (ji18)) 1) % 256) (wrap64 (7 - (Go.bits .and .i64 (wrap64 ((wrap64 (x38_2 * (l1.length : Int))) + x32_1)) 7)))))) x32_1 (rd l1 x32_1) l1 (l1.length : Int) x32_1 a0 (wrap64 (x38_2 + 1))) else (none)) else (none)) = some (r1, r2) := by first | (rw [hji18] at H; exact H) | (simp only [hji18] at H ⊢; exact H)
                              have hji18w : (IntKind.i64.wrap ((wrap64 (a0 - 1)) - x38_2)) = ji18 := (i64_w _).trans hji18
                              by_cases c19 : 0 ≤ (ji18)
                              · rw [if_pos c19] at H
                                have c19b0 := eq_true c19
                                have c19b1 : decide (0 ≤ (ji18)) = true := decide_eq_true c19
                                clear c19
                                obtain ⟨ji20, hji20⟩ : ∃ j_ : Int, (shr .u64 (rd l1 x32_1) (ji18)) = j_ := ⟨_, rfl⟩
                                replace H : (if 0 ≤ (wrap64 (7 - (Go.bits .and .i64 (wrap64 ((wrap64 (x38_2 * (l1.length : Int))) + x32_1)) 7))) then (plane_Weave.l1 k2 a0 (x10_2.set ((ji15) : Int).toNat (Go.bits .or .u8 (rd x10_2 (ji15)) (shl .u8 ((Go.bits .and .u64 (ji20) 1) % 256) (wrap64 (7 - (Go.bits .and .i64 (wrap64 ((wrap64 (x38_2 * (l1.length : Int))) + x32_1)) 7)))))) x32_1 (rd l1 x32_1) l1 (l1.length : Int) x32_1 a0 (wrap64 (x38_2 + 1))) else (none)) = some (r1, r2) := by first | (rw [hji20] at H; exact H) | (simp only [hji20] at H ⊢; exact H)
                                have hji20_ : ((rd l1 x32_1) / 2 ^ min (ji18).toNat 64) = ji20 := hji20
                                have hji20z : (ji18) ≤ 64 → ((rd l1 x32_1) / 2 ^ (ji18).toNat) = ji20 := shr_small hji20
                                obtain ⟨ji21, hji21⟩ : ∃ j_ : Int, (wrap64 (7 - (Go.bits .and .i64 (wrap64 ((wrap64 (x38_2 * (l1.length : Int))) + x32_1)) 7))) = j_ := ⟨_, rfl⟩
                                replace H : (if 0 ≤ (ji21) then (plane_Weave.l1 k2 a0 (x10_2.set ((ji15) : Int).toNat (Go.bits .or .u8 (rd x10_2 (ji15)) (shl .u8 ((Go.bits .and .u64 (ji20) 1) % 256) (ji21)))) x32_1 (rd l1 x32_1) l1 (l1.length : Int) x32_1 a0 (wrap64 (x38_2 + 1))) else (none)) = some (r1, r2) := by first | (rw [hji21] at H; exact H) | (simp only [hji21] at H ⊢; exact H)
                                have hji21w : (IntKind.i64.wrap (7 - (Go.bits .and .i64 (wrap64 ((wrap64 (x38_2 * (l1.length : Int))) + x32_1)) 7))) = ji21 := (i64_w _).trans hji21
                                by_cases c22 : 0 ≤ (ji21)
                                · rw [if_pos c22] at H
                                  have c22b0 := eq_true c22
                                  have c22b1 : decide (0 ≤ (ji21)) = true := decide_eq_true c22
                                  clear c22
                                  obtain ⟨ji23, hji23⟩ : ∃ j_ : Int, (shl .u8 ((Go.bits .and .u64 (ji20) 1) % 256) (ji21)) = j_ := ⟨_, rfl⟩
                                  replace H : (plane_Weave.l1 k2 a0 (x10_2.set ((ji15) : Int).toNat (Go.bits .or .u8 (rd x10_2 (ji15)) (ji23))) x32_1 (rd l1 x32_1) l1 (l1.length : Int) x32_1 a0 (wrap64 (x38_2 + 1))) = some (r1, r2) := by first | (rw [hji23] at H; exact H) | (simp only [hji23] at H ⊢; exact H)
                                  have hji23_ : (IntKind.u8.wrap (((Go.bits .and .u64 (ji20) 1) % 256) * 2 ^ min (ji21).toNat 8)) = ji23 := hji23
                                  have hji23z : (ji21) ≤ 8 → (IntKind.u8.wrap (((Go.bits .and .u64 (ji20) 1) % 256) * 2 ^ (ji21).toNat)) = ji23 := shl_small hji23
                                  have hji23v : (Go.bits .and .u64 (ji20) 1) % 256 * 2 ^ min ji21.toNat 8 % 256 = ji23 := (Go.IntKind.wrap_u8 _).symm.trans hji23
                                  obtain ⟨y120, hy120⟩ : ∃ y_ : List Int, y_ = (x10_2.set ((ji15) : Int).toNat (Go.bits .or .u8 (rd x10_2 (ji15)) (ji23))) := ⟨_, rfl⟩
                                  replace H : (plane_Weave.l1 k2 a0 y120 x32_1 (rd l1 x32_1) l1 (l1.length : Int) x32_1 a0 (wrap64 (x38_2 + 1))) = some (r1, r2) := by first | (rw [hy120]; with_reducible exact H) | (have H2_ := (Option.bind_some _ _).symm.trans H; rw [hy120]; with_reducible exact H2_) | (have H2_ := (Option.bind_some _ _).symm.trans H; with_reducible exact H2_) | with_reducible exact H | (rw [hy120]; exact H) | exact H
                                  have Ny120 := Aside0.mk hy120
                                  clear hy120
                                  have H' := Aside0.mk H
                                  clear H
                                  go_wp2_with ((with_reducible refine gate_value 41 rfl ?_); refine goesV_ (some 44) rfl rfl Try.func75 (by kernel_rfl) rfl #[.int .i64 x32_1, .int .i64 x38_2] #[.pointer (some p0)] rfl rfl (by (try simp only [List.map_toArray, List.map_cons, List.map_nil]); first | done | rfl) ?_; refine (woven1.calls x32_1 x38_2 (l1.length : Int) p0 _ ((HB.out.cell (World.block_lt_of_cell? w _ HP.out)).trans HP.out)).mono ?_; rintro e w' ⟨rfl, ⟨nd, rfl⟩⟩; refine ⟨_, rfl, ?_⟩; have n0_ := Aside0.mk (Kd.R_drewN HO_10.out nd); have n1_ := Aside0.mk (pw_below_drewN HB.out nd); clear HO_10 HB; have HO_10 := n0_; have HB := n1_; clear n0_ n1_; generalize wr.drewN nd = wr2 at HO_10 HB ⊢)
                                  have hbx_ := (HB.out.cell (World.block_lt_of_cell? w _ HW1.out)).trans HW1.out
                                  have n0_ := Aside0.mk (Kd.R_drew HO_10.out)
                                  have n1_ := Aside0.mk (below_drew1 HB.out)
                                  clear HO_10
                                  clear HB
                                  have HO_10 := n0_
                                  have HB := n1_
                                  clear n0_ n1_
                                  obtain ⟨Ao26, co26, eo26⟩ := Kd.R_slice HO_10.out
                                  (first | subst eo26 | (injection eo26 with f1_ f2_ f3_; have f4_ := f1_.symm; have f5_ := f3_.symm; clear f1_ f2_ f3_; subst f4_; subst f5_))
                                  have p119 : 0 ≤ ((ji15) : Int) := of_decide_eq_true (by first | (with_reducible assumption) | assumption)
                                  have q119 : (ji15) < (x10_2.length : Int) := of_decide_eq_true (by first | (with_reducible assumption) | assumption)
                                  obtain ⟨ad119, e119, hx119_0⟩ := Kd.at_int (Kd.R_reads' HO_10.out).2.2 (ji15) p119 q119
                                  cases e119
                                  replace p119 := eq_true p119
                                  replace q119 := eq_true q119
                                  have p24 : 0 ≤ ((ji15) : Int) := of_decide_eq_true (by first | (with_reducible assumption) | assumption)
                                  have q24 : ((ji15) : Int) < ((x10_2.length : Int) : Int) := of_decide_eq_true (by first | (with_reducible assumption) | assumption)
                                  obtain ⟨go24, co24, eo24, gb24, gl24, cl24, HG24⟩ := Kd.R_form HO_10.out (by omega)
                                  (first | cases eo24 | (injection eo24 with ea_ en_ ec_; (first | subst ea_ | (injection ea_ with ea_; subst ea_)); subst ec_; clear en_))
                                  have GB24 := Aside0.mk gb24
                                  have GG24 := Aside0.mk HG24
                                  clear gb24 gl24 HG24
                                  (first | simp only [add_plain] at hx119_0 | skip)
                                  obtain ⟨hx24_0, hf24_0⟩ := Kd.R_celln 0 HO_10.out ((ji15) : Int) p24 q24
                                  replace p24 := eq_true p24
                                  replace q24 := eq_true q24
                                  have HP27 := Kd.R_putn HO_10.out ((ji15) : Int) (Go.bits .or .u8 (rd x10_2 (ji15)) (ji23))
                                  rw [← Ny120.out] at HP27
                                  have HQ27 := Aside0.mk HP27
                                  clear HP27
                                  refine start_ (n := 20) (S := fun w' => w'.cell? ⟨go24, ((ji15)).toNat, none⟩ = some (.int .u8 (rd x10_2 (ji15))) ∧ w'.cell? ⟨wo.heap.size, 0, none⟩ = some (.int .i64 a0)) (ds := [19]) #[false, false, false, false, false, false, false, false, false, false, false, false, false, false, false, false, false, false, false, false] (by kernel_rfl) rfl rfl ⟨hx119_0, hbx_⟩ (fun hHeld => ?_); refine with_tabW plane_Weave.tab14 plane_Weave.bits14 (fun HT_ HW_ => ?_)
                                  generalize wr2.drew = w25 at HO_10 HB GG24 HQ27 hf24_0 hx119_0 hx24_0 hHeld ⊢
                                  refine pure_ (i := 0) (N := some 45) (v := ?_) (a' := ?_) #[true, false, false, false, false, false, false, false, false, false, false, false, false, false, false, false, false, false, false, false] rfl rfl (any_of HT_.out (by kernel_rfl)) (fun _ _ _ h => h) (Or.inl ⟨by rfl, ?_⟩) ?_ ?_
                                  rotate_left
                                  · intro w'
                                    go_simp
                                    with_reducible rfl
                                  rotate_left
                                  · simp only [Act.put, List.setIfInBounds_toArray, List.set_cons_zero, List.set_cons_succ, i64_w, i32_w]
                                    rfl
                                  refine pure_ (i := 1) (N := some 46) (v := ?_) (a' := ?_) #[true, true, false, false, false, false, false, false, false, false, false, false, false, false, false, false, false, false, false, false] rfl rfl (any_of HT_.out (by kernel_rfl)) (fun _ _ _ h => h) (Or.inl ⟨by rfl, ?_⟩) ?_ ?_
                                  rotate_left
                                  · intro w'
                                    go_simp
                                    with_reducible rfl
                                  rotate_left
                                  · simp only [Act.put, List.setIfInBounds_toArray, List.set_cons_zero, List.set_cons_succ, i64_w, i32_w]
                                    rfl
                                  refine pure_ (i := 2) (N := some 47) (v := ?_) (a' := ?_) #[true, true, true, false, false, false, false, false, false, false, false, false, false, false, false, false, false, false, false, false] rfl rfl (any_of HT_.out (by kernel_rfl)) (fun _ _ _ h => h) (Or.inl ⟨by rfl, ?_⟩) ?_ ?_
                                  rotate_left
                                  · intro w'
                                    go_simp
                                    with_reducible rfl
                                  rotate_left
                                  · simp only [Act.put, List.setIfInBounds_toArray, List.set_cons_zero, List.set_cons_succ, i64_w, i32_w]
                                    rfl
                                  refine pure_ (i := 3) (N := some 48) (v := ?_) (a' := ?_) #[true, true, true, true, false, false, false, false, false, false, false, false, false, false, false, false, false, false, false, false] rfl rfl (any_of HT_.out (by kernel_rfl)) (fun _ _ _ h => h) (Or.inl ⟨by rfl, ?_⟩) ?_ ?_
                                  rotate_left
                                  · intro w'
                                    go_simp
                                    with_reducible rfl
                                  rotate_left
                                  · simp only [Act.put, List.setIfInBounds_toArray, List.set_cons_zero, List.set_cons_succ, i64_w, i32_w]
                                    rfl
                                  refine pure_ (i := 5) (N := some 50) (v := ?_) (a' := ?_) #[true, true, true, true, false, true, false, false, false, false, false, false, false, false, false, false, false, false, false, false] rfl rfl (any_of HT_.out (by kernel_rfl)) (fun _ _ _ h => h) (Or.inl ⟨by rfl, ?_⟩) ?_ ?_
                                  rotate_left
                                  · intro w'
                                    go_simp
                                    with_reducible rfl
                                  rotate_left
                                  · simp only [Act.put, List.setIfInBounds_toArray, List.set_cons_zero, List.set_cons_succ, i64_w, i32_w]
                                    rfl
                                  refine take_ (i := 6) (N := some 51) (v := ?_) (a' := ?_) #[true, true, true, true, false, true, true, false, false, false, false, false, false, false, false, false, false, false, false, false] rfl rfl (take_ofW HT_.out HW_.out (by kernel_rfl)) (fun _ _ _ h => h) (Or.inl ⟨by rfl, ?_⟩) hHeld ?_ ?_
                                  rotate_left
                                  · rintro w' ⟨s0, s1⟩
                                    go_simp
                                    with_reducible rfl
                                  rotate_left
                                  · simp only [Act.put, List.setIfInBounds_toArray, List.set_cons_zero, List.set_cons_succ, i64_w, i32_w]
                                    rfl
                                  refine pure_ (i := 7) (N := some 52) (v := ?_) (a' := ?_) #[true, true, true, true, false, true, true, true, false, false, false, false, false, false, false, false, false, false, false, false] rfl rfl (any_of HT_.out (by kernel_rfl)) (fun _ _ _ h => h) (Or.inl ⟨by rfl, ?_⟩) ?_ ?_
                                  rotate_left
                                  · intro w'
                                    go_simp
                                    with_reducible rfl
                                  rotate_left
                                  · simp only [Act.put, List.setIfInBounds_toArray, List.set_cons_zero, List.set_cons_succ, i64_w, i32_w]
                                    rfl
                                  refine pure_ (i := 8) (N := some 53) (v := ?_) (a' := ?_) #[true, true, true, true, false, true, true, true, true, false, false, false, false, false, false, false, false, false, false, false] rfl rfl (any_of HT_.out (by kernel_rfl)) (fun _ _ _ h => h) (Or.inl ⟨by rfl, ?_⟩) ?_ ?_
                                  rotate_left
                                  · intro w'
                                    go_simp
                                    with_reducible rfl
                                  rotate_left
                                  · simp only [Act.put, List.setIfInBounds_toArray, List.set_cons_zero, List.set_cons_succ, i64_w, i32_w]
                                    rfl
                                  refine pure_ (i := 9) (N := some 54) (v := ?_) (a' := ?_) #[true, true, true, true, false, true, true, true, true, true, false, false, false, false, false, false, false, false, false, false] rfl rfl (any_of HT_.out (by kernel_rfl)) (fun _ _ _ h => h) (Or.inl ⟨by rfl, ?_⟩) ?_ ?_
                                  rotate_left
                                  · intro w'
                                    go_simp
                                    with_reducible rfl
                                  rotate_left
                                  · simp only [Act.put, List.setIfInBounds_toArray, List.set_cons_zero, List.set_cons_succ, i64_w, i32_w]
                                    rfl
                                  refine pure_ (i := 10) (N := some 55) (v := ?_) (a' := ?_) #[true, true, true, true, false, true, true, true, true, true, true, false, false, false, false, false, false, false, false, false] rfl rfl (any_of HT_.out (by kernel_rfl)) (fun _ _ _ h => h) (Or.inl ⟨by rfl, ?_⟩) ?_ ?_
                                  rotate_left
                                  · intro w'
                                    go_simp
                                    with_reducible rfl
                                  rotate_left
                                  · simp only [Act.put, List.setIfInBounds_toArray, List.set_cons_zero, List.set_cons_succ, i64_w, i32_w]
                                    rfl
                                  refine pure_ (i := 11) (N := some 56) (v := ?_) (a' := ?_) #[true, true, true, true, false, true, true, true, true, true, true, true, false, false, false, false, false, false, false, false] rfl rfl (any_of HT_.out (by kernel_rfl)) (fun _ _ _ h => h) (Or.inl ⟨by rfl, ?_⟩) ?_ ?_
                                  rotate_left
                                  · intro w'
                                    go_simp
                                    with_reducible rfl
                                  rotate_left
                                  · simp only [Act.put, List.setIfInBounds_toArray, List.set_cons_zero, List.set_cons_succ, i64_w, i32_w]
                                    rfl
                                  refine pure_ (i := 12) (N := some 57) (v := ?_) (a' := ?_) #[true, true, true, true, false, true, true, true, true, true, true, true, true, false, false, false, false, false, false, false] rfl rfl (any_of HT_.out (by kernel_rfl)) (fun _ _ _ h => h) (Or.inl ⟨by rfl, ?_⟩) ?_ ?_
                                  rotate_left
                                  · intro w'
                                    go_simp
                                    with_reducible rfl
                                  rotate_left
                                  · simp only [Act.put, List.setIfInBounds_toArray, List.set_cons_zero, List.set_cons_succ, i64_w, i32_w]
                                    rfl
                                  refine pure_ (i := 13) (N := some 58) (v := ?_) (a' := ?_) #[true, true, true, true, false, true, true, true, true, true, true, true, true, true, false, false, false, false, false, false] rfl rfl (any_of HT_.out (by kernel_rfl)) (fun _ _ _ h => h) (Or.inl ⟨by rfl, ?_⟩) ?_ ?_
                                  rotate_left
                                  · intro w'
                                    go_simp
                                    with_reducible rfl
                                  rotate_left
                                  · simp only [Act.put, List.setIfInBounds_toArray, List.set_cons_zero, List.set_cons_succ, i64_w, i32_w]
                                    rfl
                                  refine pure_ (i := 14) (N := some 59) (v := ?_) (a' := ?_) #[true, true, true, true, false, true, true, true, true, true, true, true, true, true, true, false, false, false, false, false] rfl rfl (any_of HT_.out (by kernel_rfl)) (fun _ _ _ h => h) (Or.inl ⟨by rfl, ?_⟩) ?_ ?_
                                  rotate_left
                                  · intro w'
                                    go_simp
                                    with_reducible rfl
                                  rotate_left
                                  · simp only [Act.put, List.setIfInBounds_toArray, List.set_cons_zero, List.set_cons_succ, i64_w, i32_w]
                                    rfl
                                  refine pure_ (i := 15) (N := some 60) (v := ?_) (a' := ?_) #[true, true, true, true, false, true, true, true, true, true, true, true, true, true, true, true, false, false, false, false] rfl rfl (any_of HT_.out (by kernel_rfl)) (fun _ _ _ h => h) (Or.inl ⟨by rfl, ?_⟩) ?_ ?_
                                  rotate_left
                                  · intro w'
                                    go_simp
                                    with_reducible rfl
                                  rotate_left
                                  · simp only [Act.put, List.setIfInBounds_toArray, List.set_cons_zero, List.set_cons_succ, i64_w, i32_w]
                                    rfl
                                  refine pure_ (i := 16) (N := some 61) (v := ?_) (a' := ?_) #[true, true, true, true, false, true, true, true, true, true, true, true, true, true, true, true, true, false, false, false] rfl rfl (any_of HT_.out (by kernel_rfl)) (fun _ _ _ h => h) (Or.inl ⟨by rfl, ?_⟩) ?_ ?_
                                  rotate_left
                                  · intro w'
                                    go_simp
                                    with_reducible rfl
                                  rotate_left
                                  · simp only [Act.put, List.setIfInBounds_toArray, List.set_cons_zero, List.set_cons_succ, i64_w, i32_w]
                                    rfl
                                  refine take_ (i := 4) (N := some 49) (v := ?_) (a' := ?_) #[true, true, true, true, true, true, true, true, true, true, true, true, true, true, true, true, true, false, false, false] rfl rfl (take_ofW HT_.out HW_.out (by kernel_rfl)) (fun _ _ _ h => h) (Or.inl ⟨by rfl, ?_⟩) hHeld ?_ ?_
                                  rotate_left
                                  · rintro w' ⟨s0, s1⟩
                                    go_simp
                                    with_reducible rfl
                                  rotate_left
                                  · simp only [Act.put, List.setIfInBounds_toArray, List.set_cons_zero, List.set_cons_succ, i64_w, i32_w]
                                    rfl
                                  refine pure_ (i := 17) (N := some 62) (v := ?_) (a' := ?_) #[true, true, true, true, true, true, true, true, true, true, true, true, true, true, true, true, true, true, false, false] rfl rfl (any_of HT_.out (by kernel_rfl)) (fun _ _ _ h => h) (Or.inl ⟨by rfl, ?_⟩) ?_ ?_
                                  rotate_left
                                  · intro w'
                                    go_simp
                                    with_reducible rfl
                                  rotate_left
                                  · simp only [Act.put, List.setIfInBounds_toArray, List.set_cons_zero, List.set_cons_succ, i64_w, i32_w]
                                    rfl
                                  refine pure_ (i := 18) (N := some 63) (v := ?_) (a' := ?_) #[true, true, true, true, true, true, true, true, true, true, true, true, true, true, true, true, true, true, true, false] rfl rfl (any_of HT_.out (by kernel_rfl)) (fun _ _ _ h => h) (Or.inl ⟨by rfl, ?_⟩) ?_ ?_
                                  rotate_left
                                  · intro w'
                                    go_simp
                                    with_reducible rfl
                                  rotate_left
                                  · simp only [Act.put, List.setIfInBounds_toArray, List.set_cons_zero, List.set_cons_succ, i64_w, i32_w]
                                    rfl
                                  refine last_ (i := 19) (N := none) #[true, true, true, true, true, true, true, true, true, true, true, true, true, true, true, true, true, true, true, true] rfl rfl (one_of HT_.out (by kernel_rfl)) (by decide) (fun K hK => ?_)
                                  refine skip_ (w1 := ?_) (by rfl) rfl ?_ ?_
                                  rotate_left
                                  · go_simp
                                    rfl
                                  refine hK.out _ _ ?_
                                  clear hK K
                                  refine done_ (done_of HT_.out (by kernel_rfl)) ?_
                                  try go_wp2
                                  go_roundg k2
                                  case measure => have := HK1.out; have := HK2.out; omega
                                  case rel => (try simp only [hji23v]); exact ⟨(y120), (wrap64 (x38_2 + 1)), (by first | rfl | (simp; done) | (simp [*]; done)), H', ⟨by have := HK1.out; have := HK2.out; omega⟩, ⟨by (with_reducible repeat (first | apply Kd.R_alloc | apply Kd.R_drewN | apply Kd.R_drew)); exact HQ27.out⟩, ⟨by repeat (first | (with_reducible first | exact HB.out | apply below_alloc | apply pw_below_drewN | apply below_drew1 | refine below_set ?_ GB24.out) | exact HB.out)⟩⟩
                                · rw [if_neg c22] at H
                                  exact absurd H (by simp)
                              · rw [if_neg c19] at H
                                exact absurd H (by simp)
                            · rw [if_neg c17] at H
                              exact absurd H (by simp)
                          · rw [if_neg c16] at H
                            exact absurd H (by simp)
                        · rw [if_neg c14] at H
                          have c14b0 : decide (x38_2 < a0) = false := decide_eq_false c14
                          clear c14
                          have H' := Aside0.mk H
                          clear H
                          go_wp2
                          go_roundg k2
                          case measure => have := HK1.out; have := HK2.out; omega
                          case rel => exact ⟨(x10_2), (wrap64 (x32_1 + 1)), (by first | rfl | (simp; done) | (simp [*]; done)), H', ⟨by have := HK1.out; have := HK2.out; omega⟩, ⟨by (with_reducible repeat (first | apply Kd.R_alloc | apply Kd.R_drewN | apply Kd.R_drew)); exact HO_10.out⟩, ⟨by repeat (first | (with_reducible first | exact HB.out | apply below_alloc | apply pw_below_drewN | apply below_drew1) | exact HB.out)⟩⟩
                  · rw [if_neg c13] at H
                    exact absurd H (by simp)
                · rw [if_neg c12] at H
                  exact absurd H (by simp)
              · rw [if_neg c11] at H
                have c11b0 : decide (x32_1 < (l1.length : Int)) = false := decide_eq_false c11
                clear c11
                simp only [Option.some.injEq, Prod.mk.injEq] at H
                obtain ⟨rfl, rfl⟩ := H
                go_wp2
                go_ret2
                exact ⟨_, by first | rfl | (simp [errW_none, errW_some] <;> rfl) | (simp [*, errW_none, errW_some] <;> rfl), Kd.R_lower (by (with_reducible repeat (first | apply Kd.R_alloc | apply Kd.R_drewN | apply Kd.R_drew)); exact HO_10.out) HWB.out.size, below_step HWB.out (by repeat (first | (with_reducible first | exact HB.out | apply below_alloc | apply pw_below_drewN | apply below_drew1) | exact HB.out))⟩
        · rw [if_neg c8] at H
          exact absurd H (by simp)
      · rw [if_neg c7] at H
        exact absurd H (by simp)
  · rw [if_neg c4] at H
    have c4b0 : (t113 == 0) = false := beq_eq_false_iff_ne.mpr c4
    have c4b1 : (t113 != 0) = true := bne_iff_ne.mpr c4
    simp only [Option.some.injEq, Prod.mk.injEq] at H
    obtain ⟨rfl, rfl⟩ := H
    go_enter Try.func54, Try.ntmps54
    go_wp2_with (first | ((with_reducible refine gate_callee (f := 31) rfl ?_); generalize hw_ : wo.alloc (Obj.cells #[.int .i64 a0] 3) = w; have HW1 := Aside0.mk (box_cell hw_); have HWB := Aside0.mk (box_below hw_); have HR2 := Aside0.mk (box_C hw_ HR1.out); have HP2 := Aside0.mk (box_at hw_ HP.out); clear HR1 HP hw_; have HR1 := HR2; have HP := HP2; clear HR2 HP2; have HB := Aside0.mk (Below.refl w.heap.size w); refine goesL_ (some 19) rfl rfl Try.func31 (by kernel_rfl) rfl #[.int .i64 a0, .int .i64 (l1.length : Int)] rfl (by (try simp only [List.map_toArray, List.map_cons, List.map_nil]); first | done | rfl | (simp only [List.length_drop, List.length_take]; rfl)) ?_; (with_reducible refine (plane_Bytes.calls k a0 (l1.length : Int) t112 t113 _ A3.out).mono ?_); rintro e w' ⟨rfl, ⟨nd, rfl⟩⟩; refine ⟨_, rfl, ?_⟩))
    go_ret2
    exact ⟨_, by first | rfl | (simp [errW_none, errW_some] <;> rfl) | (simp [*, errW_none, errW_some] <;> rfl), by first | exact Kd.R_nil _ _ _ _ _ | exact Kd.N_nil _ _ _ _ _ | exact Kd.V_nil _ _ _ _ _ | exact Kd.Q_nil _ _ _ _ _ | exact Kd.S_nil _ _ _ _ _, below_step HWB.out (by repeat (first | (with_reducible first | exact HB.out | apply below_alloc | apply pw_below_drewN | apply below_drew1) | exact HB.out))⟩

set_option maxHeartbeats 8000000 in
set_option maxRecDepth 100000 in
theorem plane_Weave.calls (k : Nat) (a0 : Int) (A1 : Option Addr) (c1 : Nat) (l1 : List Int) (r1 : List Int) (r2 : Int) (w : World) (hr1 : Kd.C (Kd.int .u64) w A1 l1.length l1) (hc1 : l1.length ≤ c1) (h : plane_Weave.f k a0 l1 = some (r1, r2)) :
    Calls Try.prog 15 #[.int .i64 a0, .slice A1 l1.length c1] w fun e w' => ∃ v0_ : Value, e = .returned (.tuple #[v0_, .int .i64 r2]) ∧ Kd.R (Kd.int .u8) 5 w' w.heap.size (fun _ => True) v0_ r1 ∧ Below w.heap.size w w' := by
  have HR1 := Aside0.mk hr1
  have HC1 := Aside0.mk hc1
  have HH := Aside0.mk h
  clear hr1 hc1 h
  go_enter Try.func15, Try.ntmps15
  go_wp2_with (first | ((with_reducible refine gate_callee (f := 58) rfl ?_); refine goesL_ (some 10) rfl rfl Try.func58 (by kernel_rfl) rfl #[.int .i64 (l1.length : Int)] rfl (by (try simp only [List.map_toArray, List.map_cons, List.map_nil]); first | done | rfl) ?_; refine (woven.calls (l1.length : Int) _).mono ?_; rintro e w1 ⟨p0, rfl, hp0, hb0⟩; refine ⟨_, rfl, ?_⟩; have HP0 := Aside0.mk hp0; have HB0 := Aside0.mk hb0; clear hp0 hb0) | ((with_reducible refine gate_callee (f := 54) rfl ?_); refine goesL_ (some 11) rfl rfl Try.func54 (by kernel_rfl) rfl #[.int .i64 a0, .slice A1 l1.length c1, .func (.func 75) #[] #[.pointer (some p0)]] rfl (by (try simp only [List.map_toArray, List.map_cons, List.map_nil]); first | done | rfl) ?_; refine (plane_Weave_put.calls k a0 A1 c1 l1 r1 r2 p0 _ (Kd.C_below HR1.out HB0.out) HC1.out HP0.out HH.out).mono ?_; rintro e w2 ⟨v0, rfl, ho0, hb1⟩; refine ⟨_, rfl, ?_⟩; have HO := Aside0.mk (Kd.R_lower ho0 HB0.out.size); have HB := Aside0.mk (below_step HB0.out hb1); clear ho0 hb1))
  go_ret2
  exact ⟨_, rfl, HO.out, HB.out⟩

end Go.Proofs.Ytlppmamhbpcfcaa.MPl
