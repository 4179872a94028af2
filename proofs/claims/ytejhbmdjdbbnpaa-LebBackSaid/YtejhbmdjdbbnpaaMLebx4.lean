/- Functions that the laws use, each as a plain Lean function, with the proof that the Go code comes to just that; no conditions beyond those typed. -/
import Derived.Test.YtejhbmdjdbbnpaaMLebx0
import Derived.Test.YtejhbmdjdbbnpaaMLebx1
namespace Go.Proofs.Ytejhbmdjdbbnpaa.MLeb
open Go.RowKit Go.Proofs.YtejhbmdjdbbnpaaW.PrintWords Go.Proofs.YtejhbmdjdbbnpaaW.PrintLast Go.Proofs.YtejhbmdjdbbnpaaW.PrintMore
attribute [local go_sem] max2_int min2_int max_two min_two max_three min_three max_four min_four   -- for this text's walks alone
set_option linter.unusedVariables false
set_option linter.unusedSimpArgs false

/-! ### bits_Len64: function 53 -/
def bits_Len64.j0 : Nat → Int → Int → Option (Int)
  | 0, _, _ => none
  | k + 1, x0, x2 => if x0 ≥ 65536 then (if (x0 / 65536) ≥ 256 then (if 0 ≤ (((x0 / 65536) / 256) % 256) then (if (((x0 / 65536) / 256) % 256) < 256 then (some (wrap64 ((wrap64 ((wrap64 (x2 + 16)) + 8)) + (wrap64 (bt (⟨#[0, 1, 2, 2, 3, 3, 3, 3, 4, 4, 4, 4, 4, 4, 4, 4, 5, 5, 5, 5, 5, 5, 5, 5, 5, 5, 5, 5, 5, 5, 5, 5, 6, 6, 6, 6, 6, 6, 6, 6, 6, 6, 6, 6, 6, 6, 6, 6, 6, 6, 6, 6, 6, 6, 6, 6, 6, 6, 6, 6, 6, 6, 6, 6, 7, 7, 7, 7, 7, 7, 7, 7, 7, 7, 7, 7, 7, 7, 7, 7, 7, 7, 7, 7, 7, 7, 7, 7, 7, 7, 7, 7, 7, 7, 7, 7, 7, 7, 7, 7, 7, 7, 7, 7, 7, 7, 7, 7, 7, 7, 7, 7, 7, 7, 7, 7, 7, 7, 7, 7, 7, 7, 7, 7, 7, 7, 7, 7, 8, 8, 8, 8, 8, 8, 8, 8, 8, 8, 8, 8, 8, 8, 8, 8, 8, 8, 8, 8, 8, 8, 8, 8, 8, 8, 8, 8, 8, 8, 8, 8, 8, 8, 8, 8, 8, 8, 8, 8, 8, 8, 8, 8, 8, 8, 8, 8, 8, 8, 8, 8, 8, 8, 8, 8, 8, 8, 8, 8, 8, 8, 8, 8, 8, 8, 8, 8, 8, 8, 8, 8, 8, 8, 8, 8, 8, 8, 8, 8, 8, 8, 8, 8, 8, 8, 8, 8, 8, 8, 8, 8, 8, 8, 8, 8, 8, 8, 8, 8, 8, 8, 8, 8, 8, 8, 8, 8, 8, 8, 8, 8, 8, 8, 8, 8, 8, 8, 8, 8, 8, 8, 8, 8, 8, 8, 8, 8]⟩ : ByteArray) (((x0 / 65536) / 256) % 256)))))) else (none)) else (none)) else (if 0 ≤ ((x0 / 65536) % 256) then (if ((x0 / 65536) % 256) < 256 then (some (wrap64 ((wrap64 (x2 + 16)) + (wrap64 (bt (⟨#[0, 1, 2, 2, 3, 3, 3, 3, 4, 4, 4, 4, 4, 4, 4, 4, 5, 5, 5, 5, 5, 5, 5, 5, 5, 5, 5, 5, 5, 5, 5, 5, 6, 6, 6, 6, 6, 6, 6, 6, 6, 6, 6, 6, 6, 6, 6, 6, 6, 6, 6, 6, 6, 6, 6, 6, 6, 6, 6, 6, 6, 6, 6, 6, 7, 7, 7, 7, 7, 7, 7, 7, 7, 7, 7, 7, 7, 7, 7, 7, 7, 7, 7, 7, 7, 7, 7, 7, 7, 7, 7, 7, 7, 7, 7, 7, 7, 7, 7, 7, 7, 7, 7, 7, 7, 7, 7, 7, 7, 7, 7, 7, 7, 7, 7, 7, 7, 7, 7, 7, 7, 7, 7, 7, 7, 7, 7, 7, 8, 8, 8, 8, 8, 8, 8, 8, 8, 8, 8, 8, 8, 8, 8, 8, 8, 8, 8, 8, 8, 8, 8, 8, 8, 8, 8, 8, 8, 8, 8, 8, 8, 8, 8, 8, 8, 8, 8, 8, 8, 8, 8, 8, 8, 8, 8, 8, 8, 8, 8, 8, 8, 8, 8, 8, 8, 8, 8, 8, 8, 8, 8, 8, 8, 8, 8, 8, 8, 8, 8, 8, 8, 8, 8, 8, 8, 8, 8, 8, 8, 8, 8, 8, 8, 8, 8, 8, 8, 8, 8, 8, 8, 8, 8, 8, 8, 8, 8, 8, 8, 8, 8, 8, 8, 8, 8, 8, 8, 8, 8, 8, 8, 8, 8, 8, 8, 8, 8, 8, 8, 8, 8, 8, 8, 8, 8, 8]⟩ : ByteArray) ((x0 / 65536) % 256)))))) else (none)) else (none))) else (if x0 ≥ 256 then (if 0 ≤ ((x0 / 256) % 256) then (if ((x0 / 256) % 256) < 256 then (some (wrap64 ((wrap64 (x2 + 8)) + (wrap64 (bt (⟨#[0, 1, 2, 2, 3, 3, 3, 3, 4, 4, 4, 4, 4, 4, 4, 4, 5, 5, 5, 5, 5, 5, 5, 5, 5, 5, 5, 5, 5, 5, 5, 5, 6, 6, 6, 6, 6, 6, 6, 6, 6, 6, 6, 6, 6, 6, 6, 6, 6, 6, 6, 6, 6, 6, 6, 6, 6, 6, 6, 6, 6, 6, 6, 6, 7, 7, 7, 7, 7, 7, 7, 7, 7, 7, 7, 7, 7, 7, 7, 7, 7, 7, 7, 7, 7, 7, 7, 7, 7, 7, 7, 7, 7, 7, 7, 7, 7, 7, 7, 7, 7, 7, 7, 7, 7, 7, 7, 7, 7, 7, 7, 7, 7, 7, 7, 7, 7, 7, 7, 7, 7, 7, 7, 7, 7, 7, 7, 7, 8, 8, 8, 8, 8, 8, 8, 8, 8, 8, 8, 8, 8, 8, 8, 8, 8, 8, 8, 8, 8, 8, 8, 8, 8, 8, 8, 8, 8, 8, 8, 8, 8, 8, 8, 8, 8, 8, 8, 8, 8, 8, 8, 8, 8, 8, 8, 8, 8, 8, 8, 8, 8, 8, 8, 8, 8, 8, 8, 8, 8, 8, 8, 8, 8, 8, 8, 8, 8, 8, 8, 8, 8, 8, 8, 8, 8, 8, 8, 8, 8, 8, 8, 8, 8, 8, 8, 8, 8, 8, 8, 8, 8, 8, 8, 8, 8, 8, 8, 8, 8, 8, 8, 8, 8, 8, 8, 8, 8, 8, 8, 8, 8, 8, 8, 8, 8, 8, 8, 8, 8, 8, 8, 8, 8, 8, 8, 8]⟩ : ByteArray) ((x0 / 256) % 256)))))) else (none)) else (none)) else (if 0 ≤ ((x0) % 256) then (if ((x0) % 256) < 256 then (some (wrap64 (x2 + (wrap64 (bt (⟨#[0, 1, 2, 2, 3, 3, 3, 3, 4, 4, 4, 4, 4, 4, 4, 4, 5, 5, 5, 5, 5, 5, 5, 5, 5, 5, 5, 5, 5, 5, 5, 5, 6, 6, 6, 6, 6, 6, 6, 6, 6, 6, 6, 6, 6, 6, 6, 6, 6, 6, 6, 6, 6, 6, 6, 6, 6, 6, 6, 6, 6, 6, 6, 6, 7, 7, 7, 7, 7, 7, 7, 7, 7, 7, 7, 7, 7, 7, 7, 7, 7, 7, 7, 7, 7, 7, 7, 7, 7, 7, 7, 7, 7, 7, 7, 7, 7, 7, 7, 7, 7, 7, 7, 7, 7, 7, 7, 7, 7, 7, 7, 7, 7, 7, 7, 7, 7, 7, 7, 7, 7, 7, 7, 7, 7, 7, 7, 7, 8, 8, 8, 8, 8, 8, 8, 8, 8, 8, 8, 8, 8, 8, 8, 8, 8, 8, 8, 8, 8, 8, 8, 8, 8, 8, 8, 8, 8, 8, 8, 8, 8, 8, 8, 8, 8, 8, 8, 8, 8, 8, 8, 8, 8, 8, 8, 8, 8, 8, 8, 8, 8, 8, 8, 8, 8, 8, 8, 8, 8, 8, 8, 8, 8, 8, 8, 8, 8, 8, 8, 8, 8, 8, 8, 8, 8, 8, 8, 8, 8, 8, 8, 8, 8, 8, 8, 8, 8, 8, 8, 8, 8, 8, 8, 8, 8, 8, 8, 8, 8, 8, 8, 8, 8, 8, 8, 8, 8, 8, 8, 8, 8, 8, 8, 8, 8, 8, 8, 8, 8, 8, 8, 8, 8, 8, 8, 8]⟩ : ByteArray) ((x0) % 256)))))) else (none)) else (none)))
def bits_Len64.f (k : Nat) (a0 : Int) : Option (Int) := if a0 ≥ 4294967296 then (bits_Len64.j0 k (a0 / 4294967296) 32) else (bits_Len64.j0 k a0 0)
theorem bits_Len64.mono_l : ∀ k, (∀ y0 y1, LeO (bits_Len64.j0 k y0 y1) (bits_Len64.j0 (k + 1) y0 y1))
  | 0 => fun _ _ r h => by simp [bits_Len64.j0] at h
  | k + 1 => by
    have ih0 := bits_Len64.mono_l k
    · intro y0 y1
      unfold bits_Len64.j0
      repeat' first
      | (with_reducible exact ih0 _ _)
      | (with_reducible exact LeO.refl _)
      | (with_reducible exact LeO.none _)
      | (with_reducible refine LeO.ite ?_ ?_)
      | (with_reducible refine LeO.bind ?_ (fun _ => ?_))
      | exact ih0 _ _
      | exact LeO.none _
      | refine LeO.ite ?_ ?_
      | refine LeO.bind ?_ (fun _ => ?_)
theorem bits_Len64.mono : ∀ a0 k, LeO (bits_Len64.f k a0) (bits_Len64.f (k + 1) a0) := by
  intro a0 k
  have ih0 := bits_Len64.mono_l k
  unfold bits_Len64.f
  repeat' first
      | (with_reducible exact ih0 _ _)
      | (with_reducible exact LeO.refl _)
      | (with_reducible exact LeO.none _)
      | (with_reducible refine LeO.ite ?_ ?_)
      | (with_reducible refine LeO.bind ?_ (fun _ => ?_))
      | exact ih0 _ _
      | exact LeO.none _
      | refine LeO.ite ?_ ?_
      | refine LeO.bind ?_ (fun _ => ?_)
set_option maxHeartbeats 8000000 in
set_option maxRecDepth 100000 in
theorem bits_Len64.calls (k : Nat) (a0 : Int) (r : Int) (w : World) (h : bits_Len64.f k a0 = some r) :
    Calls Try.prog 53 #[.int .u64 a0] w fun e w' => e = .returned (.int .i64 r) ∧ Drawn0 w w' := by
  have H : (if a0 ≥ 4294967296 then (bits_Len64.j0 k (a0 / 4294967296) 32) else (bits_Len64.j0 k a0 0)) = some r := h
  clear h
  have HC2 := Aside0.mk H
  clear H
  go_enter Try.func53, Try.ntmps53
  go_upto_if 4 with (fail)
  go_cut [0, 2] (fun v0 v2 wc => ∃ (kq : Nat) (x0_1 : Int) (x2_1 : Int), v0 = .int .u64 x0_1 ∧ v2 = .int .i64 x2_1 ∧ Aside0 (bits_Len64.j0 kq x0_1 x2_1 = some r) ∧ Aside0 (kq ≤ k) ∧ Drawn0 w wc)
  case first =>
    have H := HC2.out
    clear HC2
    by_cases c3 : a0 ≥ 4294967296
    · rw [if_pos c3] at H
      have c3b0 : decide (4294967296 ≤ a0) = true := decide_eq_true c3
      clear c3
      (first | rw [c3b0] | (simp only [i64_w, i32_w]; rw [c3b0]) | skip)
      have H' := Aside0.mk H
      clear H
      go_wp2
      go_meet
      case rel => exact ⟨_, (a0 / 4294967296), (32), (by first | rfl | (simp; done) | (simp [*]; done)), (by first | rfl | (simp; done) | (simp [*]; done)), H', ⟨by first | omega | exact Nat.le_refl _⟩, by repeat (first | exact Drawn0.refl _ | apply Drawn0.step)⟩
    · rw [if_neg c3] at H
      have c3b0 : decide (4294967296 ≤ a0) = false := decide_eq_false c3
      clear c3
      (first | rw [c3b0] | (simp only [i64_w, i32_w]; rw [c3b0]) | skip)
      have H' := Aside0.mk H
      clear H
      go_wp2
      go_meet
      case rel => exact ⟨_, (a0), (0), (by first | rfl | (simp; done) | (simp [*]; done)), (by first | rfl | (simp; done) | (simp [*]; done)), H', ⟨by first | omega | exact Nat.le_refl _⟩, by repeat (first | exact Drawn0.refl _ | apply Drawn0.step)⟩
  case rest =>
    clear HC2
    try clear p2
    try clear c3
    try clear c3b0
    obtain ⟨kq, x0_1, x2_1, rfl, rfl, HA, HJ1, ⟨mc1, rfl⟩⟩ := hcut
    cases kq with
    | zero => exact absurd HA.out (by simp [bits_Len64.j0])
    | succ kj1 =>
      have H := HA.out
      clear HA
      simp only [bits_Len64.j0] at H
      by_cases c4 : x0_1 ≥ 65536
      · rw [if_pos c4] at H
        have c4b0 : decide (65536 ≤ x0_1) = true := decide_eq_true c4
        clear c4
        by_cases c5 : (x0_1 / 65536) ≥ 256
        · rw [if_pos c5] at H
          have c5b0 : decide (256 ≤ (x0_1 / 65536)) = true := decide_eq_true c5
          clear c5
          obtain ⟨ji6, hji6⟩ : ∃ j_ : Int, (((x0_1 / 65536) / 256) % 256) = j_ := ⟨_, rfl⟩
          replace H : (if 0 ≤ (ji6) then (if (ji6) < 256 then (some (wrap64 ((wrap64 ((wrap64 (x2_1 + 16)) + 8)) + (wrap64 (bt (⟨#[0, 1, 2, 2, 3, 3, 3, 3, 4, 4, 4, 4, 4, 4, 4, 4, 5, 5, 5, 5, 5, 5, 5, 5, 5, 5, 5, 5, 5, 5, 5, 5, 6, 6, 6, 6, 6, 6, 6, 6, 6, 6, 6, 6, 6, 6, 6, 6, 6, 6, 6, 6, 6, 6, 6, 6, 6, 6, 6, 6, 6, 6, 6, 6, 7, 7, 7, 7, 7, 7, 7, 7, 7, 7, 7, 7, 7, 7, 7, 7, 7, 7, 7, 7, 7, 7, 7, 7, 7, 7, 7, 7, 7, 7, 7, 7, 7, 7, 7, 7, 7, 7, 7, 7, 7, 7, 7, 7, 7, 7, 7, 7, 7, 7, 7, 7, 7, 7, 7, 7, 7, 7, 7, 7, 7, 7, 7, 7, 8, 8, 8, 8, 8, 8, 8, 8, 8, 8, 8, 8, 8, 8, 8, 8, 8, 8, 8, 8, 8, 8, 8, 8, 8, 8, 8, 8, 8, 8, 8, 8, 8, 8, 8, 8, 8, 8, 8, 8, 8, 8, 8, 8, 8, 8, 8, 8, 8, 8, 8, 8, 8, 8, 8, 8, 8, 8, 8, 8, 8, 8, 8, 8, 8, 8, 8, 8, 8, 8, 8, 8, 8, 8, 8, 8, 8, 8, 8, 8, 8, 8, 8, 8, 8, 8, 8, 8, 8, 8, 8, 8, 8, 8, 8, 8, 8, 8, 8, 8, 8, 8, 8, 8, 8, 8, 8, 8, 8, 8, 8, 8, 8, 8, 8, 8, 8, 8, 8, 8, 8, 8, 8, 8, 8, 8, 8, 8]⟩ : ByteArray) (ji6)))))) else (none)) else (none)) = some r := by first | (rw [hji6] at H; exact H) | (simp only [hji6] at H ⊢; exact H)
          by_cases c7 : 0 ≤ (ji6)
          · rw [if_pos c7] at H
            have c7b0 : decide (0 ≤ (ji6)) = true := decide_eq_true c7
            clear c7
            by_cases c8 : (ji6) < 256
            · rw [if_pos c8] at H
              have c8b0 : decide ((ji6) < 256) = true := decide_eq_true c8
              clear c8
              obtain rfl := Option.some.inj H
              have p9 : 0 ≤ ((ji6) : Int) := of_decide_eq_true (by first | (with_reducible assumption) | assumption)
              have q9 : (ji6) < (256 : Int) := of_decide_eq_true (by first | (with_reducible assumption) | assumption)
              have hx9 := bt_at (⟨#[0, 1, 2, 2, 3, 3, 3, 3, 4, 4, 4, 4, 4, 4, 4, 4, 5, 5, 5, 5, 5, 5, 5, 5, 5, 5, 5, 5, 5, 5, 5, 5, 6, 6, 6, 6, 6, 6, 6, 6, 6, 6, 6, 6, 6, 6, 6, 6, 6, 6, 6, 6, 6, 6, 6, 6, 6, 6, 6, 6, 6, 6, 6, 6, 7, 7, 7, 7, 7, 7, 7, 7, 7, 7, 7, 7, 7, 7, 7, 7, 7, 7, 7, 7, 7, 7, 7, 7, 7, 7, 7, 7, 7, 7, 7, 7, 7, 7, 7, 7, 7, 7, 7, 7, 7, 7, 7, 7, 7, 7, 7, 7, 7, 7, 7, 7, 7, 7, 7, 7, 7, 7, 7, 7, 7, 7, 7, 7, 8, 8, 8, 8, 8, 8, 8, 8, 8, 8, 8, 8, 8, 8, 8, 8, 8, 8, 8, 8, 8, 8, 8, 8, 8, 8, 8, 8, 8, 8, 8, 8, 8, 8, 8, 8, 8, 8, 8, 8, 8, 8, 8, 8, 8, 8, 8, 8, 8, 8, 8, 8, 8, 8, 8, 8, 8, 8, 8, 8, 8, 8, 8, 8, 8, 8, 8, 8, 8, 8, 8, 8, 8, 8, 8, 8, 8, 8, 8, 8, 8, 8, 8, 8, 8, 8, 8, 8, 8, 8, 8, 8, 8, 8, 8, 8, 8, 8, 8, 8, 8, 8, 8, 8, 8, 8, 8, 8, 8, 8, 8, 8, 8, 8, 8, 8, 8, 8, 8, 8, 8, 8, 8, 8, 8, 8, 8, 8]⟩ : ByteArray) (ji6)
              replace p9 := eq_true p9; (try (have p9s := p9; rw [List.length_drop] at p9s)); (try (have p9t := p9; rw [List.length_take] at p9t))
              replace q9 := eq_true q9; (try (have q9s := q9; rw [List.length_drop] at q9s)); (try (have q9t := q9; rw [List.length_take] at q9t))
              go_wp2
              go_ret
              exact ⟨by first | rfl | (simp; done) | (simp only [← hji6] <;> (first | rfl | simp)) | (simp [*]; done), by repeat (first | exact Drawn0.refl _ | apply Drawn0.step)⟩
            · rw [if_neg c8] at H
              exact absurd H (by simp)
          · rw [if_neg c7] at H
            exact absurd H (by simp)
        · rw [if_neg c5] at H
          have c5b0 : decide (256 ≤ (x0_1 / 65536)) = false := decide_eq_false c5
          clear c5
          obtain ⟨ji10, hji10⟩ : ∃ j_ : Int, ((x0_1 / 65536) % 256) = j_ := ⟨_, rfl⟩
          replace H : (if 0 ≤ (ji10) then (if (ji10) < 256 then (some (wrap64 ((wrap64 (x2_1 + 16)) + (wrap64 (bt (⟨#[0, 1, 2, 2, 3, 3, 3, 3, 4, 4, 4, 4, 4, 4, 4, 4, 5, 5, 5, 5, 5, 5, 5, 5, 5, 5, 5, 5, 5, 5, 5, 5, 6, 6, 6, 6, 6, 6, 6, 6, 6, 6, 6, 6, 6, 6, 6, 6, 6, 6, 6, 6, 6, 6, 6, 6, 6, 6, 6, 6, 6, 6, 6, 6, 7, 7, 7, 7, 7, 7, 7, 7, 7, 7, 7, 7, 7, 7, 7, 7, 7, 7, 7, 7, 7, 7, 7, 7, 7, 7, 7, 7, 7, 7, 7, 7, 7, 7, 7, 7, 7, 7, 7, 7, 7, 7, 7, 7, 7, 7, 7, 7, 7, 7, 7, 7, 7, 7, 7, 7, 7, 7, 7, 7, 7, 7, 7, 7, 8, 8, 8, 8, 8, 8, 8, 8, 8, 8, 8, 8, 8, 8, 8, 8, 8, 8, 8, 8, 8, 8, 8, 8, 8, 8, 8, 8, 8, 8, 8, 8, 8, 8, 8, 8, 8, 8, 8, 8, 8, 8, 8, 8, 8, 8, 8, 8, 8, 8, 8, 8, 8, 8, 8, 8, 8, 8, 8, 8, 8, 8, 8, 8, 8, 8, 8, 8, 8, 8, 8, 8, 8, 8, 8, 8, 8, 8, 8, 8, 8, 8, 8, 8, 8, 8, 8, 8, 8, 8, 8, 8, 8, 8, 8, 8, 8, 8, 8, 8, 8, 8, 8, 8, 8, 8, 8, 8, 8, 8, 8, 8, 8, 8, 8, 8, 8, 8, 8, 8, 8, 8, 8, 8, 8, 8, 8, 8]⟩ : ByteArray) (ji10)))))) else (none)) else (none)) = some r := by first | (rw [hji10] at H; exact H) | (simp only [hji10] at H ⊢; exact H)
          by_cases c11 : 0 ≤ (ji10)
          · rw [if_pos c11] at H
            have c11b0 : decide (0 ≤ (ji10)) = true := decide_eq_true c11
            clear c11
            by_cases c12 : (ji10) < 256
            · rw [if_pos c12] at H
              have c12b0 : decide ((ji10) < 256) = true := decide_eq_true c12
              clear c12
              obtain rfl := Option.some.inj H
              have p13 : 0 ≤ ((ji10) : Int) := of_decide_eq_true (by first | (with_reducible assumption) | assumption)
              have q13 : (ji10) < (256 : Int) := of_decide_eq_true (by first | (with_reducible assumption) | assumption)
              have hx13 := bt_at (⟨#[0, 1, 2, 2, 3, 3, 3, 3, 4, 4, 4, 4, 4, 4, 4, 4, 5, 5, 5, 5, 5, 5, 5, 5, 5, 5, 5, 5, 5, 5, 5, 5, 6, 6, 6, 6, 6, 6, 6, 6, 6, 6, 6, 6, 6, 6, 6, 6, 6, 6, 6, 6, 6, 6, 6, 6, 6, 6, 6, 6, 6, 6, 6, 6, 7, 7, 7, 7, 7, 7, 7, 7, 7, 7, 7, 7, 7, 7, 7, 7, 7, 7, 7, 7, 7, 7, 7, 7, 7, 7, 7, 7, 7, 7, 7, 7, 7, 7, 7, 7, 7, 7, 7, 7, 7, 7, 7, 7, 7, 7, 7, 7, 7, 7, 7, 7, 7, 7, 7, 7, 7, 7, 7, 7, 7, 7, 7, 7, 8, 8, 8, 8, 8, 8, 8, 8, 8, 8, 8, 8, 8, 8, 8, 8, 8, 8, 8, 8, 8, 8, 8, 8, 8, 8, 8, 8, 8, 8, 8, 8, 8, 8, 8, 8, 8, 8, 8, 8, 8, 8, 8, 8, 8, 8, 8, 8, 8, 8, 8, 8, 8, 8, 8, 8, 8, 8, 8, 8, 8, 8, 8, 8, 8, 8, 8, 8, 8, 8, 8, 8, 8, 8, 8, 8, 8, 8, 8, 8, 8, 8, 8, 8, 8, 8, 8, 8, 8, 8, 8, 8, 8, 8, 8, 8, 8, 8, 8, 8, 8, 8, 8, 8, 8, 8, 8, 8, 8, 8, 8, 8, 8, 8, 8, 8, 8, 8, 8, 8, 8, 8, 8, 8, 8, 8, 8, 8]⟩ : ByteArray) (ji10)
              replace p13 := eq_true p13; (try (have p13s := p13; rw [List.length_drop] at p13s)); (try (have p13t := p13; rw [List.length_take] at p13t))
              replace q13 := eq_true q13; (try (have q13s := q13; rw [List.length_drop] at q13s)); (try (have q13t := q13; rw [List.length_take] at q13t))
              go_wp2
              go_ret
              exact ⟨by first | rfl | (simp; done) | (simp only [← hji10] <;> (first | rfl | simp)) | (simp [*]; done), by repeat (first | exact Drawn0.refl _ | apply Drawn0.step)⟩
            · rw [if_neg c12] at H
              exact absurd H (by simp)
          · rw [if_neg c11] at H
            exact absurd H (by simp)
      · rw [if_neg c4] at H
        have c4b0 : decide (65536 ≤ x0_1) = false := decide_eq_false c4
        clear c4
        by_cases c14 : x0_1 ≥ 256
        · rw [if_pos c14] at H
          have c14b0 : decide (256 ≤ x0_1) = true := decide_eq_true c14
          clear c14
          obtain ⟨ji15, hji15⟩ : ∃ j_ : Int, ((x0_1 / 256) % 256) = j_ := ⟨_, rfl⟩
          replace H : (if 0 ≤ (ji15) then (if (ji15) < 256 then (some (wrap64 ((wrap64 (x2_1 + 8)) + (wrap64 (bt (⟨#[0, 1, 2, 2, 3, 3, 3, 3, 4, 4, 4, 4, 4, 4, 4, 4, 5, 5, 5, 5, 5, 5, 5, 5, 5, 5, 5, 5, 5, 5, 5, 5, 6, 6, 6, 6, 6, 6, 6, 6, 6, 6, 6, 6, 6, 6, 6, 6, 6, 6, 6, 6, 6, 6, 6, 6, 6, 6, 6, 6, 6, 6, 6, 6, 7, 7, 7, 7, 7, 7, 7, 7, 7, 7, 7, 7, 7, 7, 7, 7, 7, 7, 7, 7, 7, 7, 7, 7, 7, 7, 7, 7, 7, 7, 7, 7, 7, 7, 7, 7, 7, 7, 7, 7, 7, 7, 7, 7, 7, 7, 7, 7, 7, 7, 7, 7, 7, 7, 7, 7, 7, 7, 7, 7, 7, 7, 7, 7, 8, 8, 8, 8, 8, 8, 8, 8, 8, 8, 8, 8, 8, 8, 8, 8, 8, 8, 8, 8, 8, 8, 8, 8, 8, 8, 8, 8, 8, 8, 8, 8, 8, 8, 8, 8, 8, 8, 8, 8, 8, 8, 8, 8, 8, 8, 8, 8, 8, 8, 8, 8, 8, 8, 8, 8, 8, 8, 8, 8, 8, 8, 8, 8, 8, 8, 8, 8, 8, 8, 8, 8, 8, 8, 8, 8, 8, 8, 8, 8, 8, 8, 8, 8, 8, 8, 8, 8, 8, 8, 8, 8, 8, 8, 8, 8, 8, 8, 8, 8, 8, 8, 8, 8, 8, 8, 8, 8, 8, 8, 8, 8, 8, 8, 8, 8, 8, 8, 8, 8, 8, 8, 8, 8, 8, 8, 8, 8]⟩ : ByteArray) (ji15)))))) else (none)) else (none)) = some r := by first | (rw [hji15] at H; exact H) | (simp only [hji15] at H ⊢; exact H)
          by_cases c16 : 0 ≤ (ji15)
          · rw [if_pos c16] at H
            have c16b0 : decide (0 ≤ (ji15)) = true := decide_eq_true c16
            clear c16
            by_cases c17 : (ji15) < 256
            · rw [if_pos c17] at H
              have c17b0 : decide ((ji15) < 256) = true := decide_eq_true c17
              clear c17
              obtain rfl := Option.some.inj H
              have p18 : 0 ≤ ((ji15) : Int) := of_decide_eq_true (by first | (with_reducible assumption) | assumption)
              have q18 : (ji15) < (256 : Int) := of_decide_eq_true (by first | (with_reducible assumption) | assumption)
              have hx18 := bt_at (⟨#[0, 1, 2, 2, 3, 3, 3, 3, 4, 4, 4, 4, 4, 4, 4, 4, 5, 5, 5, 5, 5, 5, 5, 5, 5, 5, 5, 5, 5, 5, 5, 5, 6, 6, 6, 6, 6, 6, 6, 6, 6, 6, 6, 6, 6, 6, 6, 6, 6, 6, 6, 6, 6, 6, 6, 6, 6, 6, 6, 6, 6, 6, 6, 6, 7, 7, 7, 7, 7, 7, 7, 7, 7, 7, 7, 7, 7, 7, 7, 7, 7, 7, 7, 7, 7, 7, 7, 7, 7, 7, 7, 7, 7, 7, 7, 7, 7, 7, 7, 7, 7, 7, 7, 7, 7, 7, 7, 7, 7, 7, 7, 7, 7, 7, 7, 7, 7, 7, 7, 7, 7, 7, 7, 7, 7, 7, 7, 7, 8, 8, 8, 8, 8, 8, 8, 8, 8, 8, 8, 8, 8, 8, 8, 8, 8, 8, 8, 8, 8, 8, 8, 8, 8, 8, 8, 8, 8, 8, 8, 8, 8, 8, 8, 8, 8, 8, 8, 8, 8, 8, 8, 8, 8, 8, 8, 8, 8, 8, 8, 8, 8, 8, 8, 8, 8, 8, 8, 8, 8, 8, 8, 8, 8, 8, 8, 8, 8, 8, 8, 8, 8, 8, 8, 8, 8, 8, 8, 8, 8, 8, 8, 8, 8, 8, 8, 8, 8, 8, 8, 8, 8, 8, 8, 8, 8, 8, 8, 8, 8, 8, 8, 8, 8, 8, 8, 8, 8, 8, 8, 8, 8, 8, 8, 8, 8, 8, 8, 8, 8, 8, 8, 8, 8, 8, 8, 8]⟩ : ByteArray) (ji15)
              replace p18 := eq_true p18; (try (have p18s := p18; rw [List.length_drop] at p18s)); (try (have p18t := p18; rw [List.length_take] at p18t))
              replace q18 := eq_true q18; (try (have q18s := q18; rw [List.length_drop] at q18s)); (try (have q18t := q18; rw [List.length_take] at q18t))
              go_wp2
              go_ret
              exact ⟨by first | rfl | (simp; done) | (simp only [← hji15] <;> (first | rfl | simp)) | (simp [*]; done), by repeat (first | exact Drawn0.refl _ | apply Drawn0.step)⟩
            · rw [if_neg c17] at H
              exact absurd H (by simp)
          · rw [if_neg c16] at H
            exact absurd H (by simp)
        · rw [if_neg c14] at H
          have c14b0 : decide (256 ≤ x0_1) = false := decide_eq_false c14
          clear c14
          obtain ⟨ji19, hji19⟩ : ∃ j_ : Int, ((x0_1) % 256) = j_ := ⟨_, rfl⟩
          replace H : (if 0 ≤ (ji19) then (if (ji19) < 256 then (some (wrap64 (x2_1 + (wrap64 (bt (⟨#[0, 1, 2, 2, 3, 3, 3, 3, 4, 4, 4, 4, 4, 4, 4, 4, 5, 5, 5, 5, 5, 5, 5, 5, 5, 5, 5, 5, 5, 5, 5, 5, 6, 6, 6, 6, 6, 6, 6, 6, 6, 6, 6, 6, 6, 6, 6, 6, 6, 6, 6, 6, 6, 6, 6, 6, 6, 6, 6, 6, 6, 6, 6, 6, 7, 7, 7, 7, 7, 7, 7, 7, 7, 7, 7, 7, 7, 7, 7, 7, 7, 7, 7, 7, 7, 7, 7, 7, 7, 7, 7, 7, 7, 7, 7, 7, 7, 7, 7, 7, 7, 7, 7, 7, 7, 7, 7, 7, 7, 7, 7, 7, 7, 7, 7, 7, 7, 7, 7, 7, 7, 7, 7, 7, 7, 7, 7, 7, 8, 8, 8, 8, 8, 8, 8, 8, 8, 8, 8, 8, 8, 8, 8, 8, 8, 8, 8, 8, 8, 8, 8, 8, 8, 8, 8, 8, 8, 8, 8, 8, 8, 8, 8, 8, 8, 8, 8, 8, 8, 8, 8, 8, 8, 8, 8, 8, 8, 8, 8, 8, 8, 8, 8, 8, 8, 8, 8, 8, 8, 8, 8, 8, 8, 8, 8, 8, 8, 8, 8, 8, 8, 8, 8, 8, 8, 8, 8, 8, 8, 8, 8, 8, 8, 8, 8, 8, 8, 8, 8, 8, 8, 8, 8, 8, 8, 8, 8, 8, 8, 8, 8, 8, 8, 8, 8, 8, 8, 8, 8, 8, 8, 8, 8, 8, 8, 8, 8, 8, 8, 8, 8, 8, 8, 8, 8, 8]⟩ : ByteArray) (ji19)))))) else (none)) else (none)) = some r := by first | (rw [hji19] at H; exact H) | (simp only [hji19] at H ⊢; exact H)
          by_cases c20 : 0 ≤ (ji19)
          · rw [if_pos c20] at H
            have c20b0 : decide (0 ≤ (ji19)) = true := decide_eq_true c20
            clear c20
            by_cases c21 : (ji19) < 256
            · rw [if_pos c21] at H
              have c21b0 : decide ((ji19) < 256) = true := decide_eq_true c21
              clear c21
              obtain rfl := Option.some.inj H
              have p22 : 0 ≤ ((ji19) : Int) := of_decide_eq_true (by first | (with_reducible assumption) | assumption)
              have q22 : (ji19) < (256 : Int) := of_decide_eq_true (by first | (with_reducible assumption) | assumption)
              have hx22 := bt_at (⟨#[0, 1, 2, 2, 3, 3, 3, 3, 4, 4, 4, 4, 4, 4, 4, 4, 5, 5, 5, 5, 5, 5, 5, 5, 5, 5, 5, 5, 5, 5, 5, 5, 6, 6, 6, 6, 6, 6, 6, 6, 6, 6, 6, 6, 6, 6, 6, 6, 6, 6, 6, 6, 6, 6, 6, 6, 6, 6, 6, 6, 6, 6, 6, 6, 7, 7, 7, 7, 7, 7, 7, 7, 7, 7, 7, 7, 7, 7, 7, 7, 7, 7, 7, 7, 7, 7, 7, 7, 7, 7, 7, 7, 7, 7, 7, 7, 7, 7, 7, 7, 7, 7, 7, 7, 7, 7, 7, 7, 7, 7, 7, 7, 7, 7, 7, 7, 7, 7, 7, 7, 7, 7, 7, 7, 7, 7, 7, 7, 8, 8, 8, 8, 8, 8, 8, 8, 8, 8, 8, 8, 8, 8, 8, 8, 8, 8, 8, 8, 8, 8, 8, 8, 8, 8, 8, 8, 8, 8, 8, 8, 8, 8, 8, 8, 8, 8, 8, 8, 8, 8, 8, 8, 8, 8, 8, 8, 8, 8, 8, 8, 8, 8, 8, 8, 8, 8, 8, 8, 8, 8, 8, 8, 8, 8, 8, 8, 8, 8, 8, 8, 8, 8, 8, 8, 8, 8, 8, 8, 8, 8, 8, 8, 8, 8, 8, 8, 8, 8, 8, 8, 8, 8, 8, 8, 8, 8, 8, 8, 8, 8, 8, 8, 8, 8, 8, 8, 8, 8, 8, 8, 8, 8, 8, 8, 8, 8, 8, 8, 8, 8, 8, 8, 8, 8, 8, 8]⟩ : ByteArray) (ji19)
              replace p22 := eq_true p22; (try (have p22s := p22; rw [List.length_drop] at p22s)); (try (have p22t := p22; rw [List.length_take] at p22t))
              replace q22 := eq_true q22; (try (have q22s := q22; rw [List.length_drop] at q22s)); (try (have q22t := q22; rw [List.length_take] at q22t))
              go_wp2
              go_ret
              exact ⟨by first | rfl | (simp; done) | (simp only [← hji19] <;> (first | rfl | simp)) | (simp [*]; done), by repeat (first | exact Drawn0.refl _ | apply Drawn0.step)⟩
            · rw [if_neg c21] at H
              exact absurd H (by simp)
          · rw [if_neg c20] at H
            exact absurd H (by simp)

/-! ### leb_Size: function 35 -/
def leb_Size.f (k : Nat) (a0 : Int) : Option (Int) := (bits_Len64.f k (Go.bits .or .u64 a0 1)).bind fun t185 => (some (wrap64 (Int.tdiv (wrap64 (t185 + 6)) 7)))
theorem leb_Size.mono : ∀ a0 k, LeO (leb_Size.f k a0) (leb_Size.f (k + 1) a0) := by
  intro a0 k
  unfold leb_Size.f
  repeat' first
      | (with_reducible exact bits_Len64.mono _ _)
      | (with_reducible exact LeO.refl _)
      | (with_reducible exact LeO.none _)
      | (with_reducible refine LeO.ite ?_ ?_)
      | (with_reducible refine LeO.bind ?_ (fun _ => ?_))
      | exact bits_Len64.mono _ _
      | exact LeO.none _
      | refine LeO.ite ?_ ?_
      | refine LeO.bind ?_ (fun _ => ?_)
set_option maxHeartbeats 8000000 in
set_option maxRecDepth 100000 in
theorem leb_Size.calls (k : Nat) (a0 : Int) (r : Int) (w : World) (h : leb_Size.f k a0 = some r) :
    Calls Try.prog 35 #[.int .u64 a0] w fun e w' => e = .returned (.int .i64 r) ∧ Drawn0 w w' := by
  have H : ((bits_Len64.f k (Go.bits .or .u64 a0 1)).bind fun t185 => (some (wrap64 (Int.tdiv (wrap64 (t185 + 6)) 7)))) = some r := h
  clear h
  replace H := Option.bind_eq_some_iff.mp H
  obtain ⟨t185, A20, H⟩ := H
  replace H : (some (wrap64 (Int.tdiv (wrap64 (t185 + 6)) 7))) = some r := H
  have A2 := Aside0.mk A20
  clear A20
  obtain rfl := Option.some.inj H
  go_enter Try.func35, Try.ntmps35
  go_wp2_with (first | ((with_reducible refine gate_callee (f := 53) rfl ?_); refine goesL_ (some 5) rfl rfl Try.func53 (by kernel_rfl) rfl #[.int .u64 (Go.bits .or .u64 a0 1)] rfl (by (try simp only [List.map_toArray, List.map_cons, List.map_nil]); first | done | rfl | (simp only [List.length_drop, List.length_take]; rfl)) ?_; (with_reducible refine (bits_Len64.calls k (Go.bits .or .u64 a0 1) t185 _ A2.out).mono ?_); rintro e w' ⟨rfl, ⟨nd, rfl⟩⟩; refine ⟨_, rfl, ?_⟩))
  go_ret
  exact ⟨by first | rfl | (simp; done) | (simp [*]; done), by repeat (first | exact Drawn0.refl _ | apply Drawn0.step)⟩

/-! ### thrumref03_Same: function 36 -/
def thrumref03_Same.f (l0 : List Int) (l1 : List Int) : Option (Bool) := some ((strOfNums l0).toList == (strOfNums l1).toList)
set_option maxHeartbeats 8000000 in
set_option maxRecDepth 100000 in
theorem thrumref03_Same.calls (A0 : Option Addr) (c0 : Nat) (l0 : List Int) (A1 : Option Addr) (c1 : Nat) (l1 : List Int) (r : Bool) (w : World) (hr0 : Kd.C (Kd.int .u8) w A0 l0.length l0) (hc0 : l0.length ≤ c0) (hr1 : Kd.C (Kd.int .u8) w A1 l1.length l1) (hc1 : l1.length ≤ c1) (h : thrumref03_Same.f l0 l1 = some r) :
    Calls Try.prog 36 #[.slice A0 l0.length c0, .slice A1 l1.length c1] w fun e w' => e = .returned (.bool r) ∧ Drawn0 w w' := by
  have HR0 := Aside0.mk hr0
  have HC0 := Aside0.mk hc0
  clear hr0 hc0
  have HR1 := Aside0.mk hr1
  have HC1 := Aside0.mk hc1
  clear hr1 hc1
  have H : (some ((strOfNums l0).toList == (strOfNums l1).toList)) = some r := h
  clear h
  obtain rfl := Option.some.inj H
  have hcv3 := Kd.C_string (P := Try.prog) (A := A0) (c := c0) Try.underlying46 Try.underlying5 Try.underlying9 HR0.out
  have hcv4 := Kd.C_string (P := Try.prog) (A := A1) (c := c1) Try.underlying46 Try.underlying5 Try.underlying9 HR1.out
  go_enter Try.func36, Try.ntmps36
  go_wp2
  go_ret
  exact ⟨by first | rfl | (simp; done) | (simp [*]; done), by repeat (first | exact Drawn0.refl _ | apply Drawn0.step)⟩

/-! ### thrumlaw03_LebApart: function 11 -/
def thrumlaw03_LebApart.j0 : Nat → Int → Int → Bool → List Int → List Int → Bool → Option (Bool)
  | 0, _, _, _, _, _, _ => none
  | k + 1, x0, x1, x5, x6, x7, x56 => if x56 = true then (some false) else (if x0 = x1 then (if 0 ≤ (wrap64 ((x6.length : Int) - 1)) then (if (wrap64 ((x6.length : Int) - 1)) ≤ (x6.length : Int) then ((leb_Get.f k (x6.take ((wrap64 ((x6.length : Int) - 1)) : Int).toNat) 0).bind fun bt205 => (if x5 = true then (some (bt205.2.2 == 5)) else (some false))) else (none)) else (none)) else (if (x6.length : Int) ≤ (x7.length : Int) then (if 0 ≤ (x6.length : Int) then ((thrumref03_Same.f x6 (x7.take ((x6.length : Int) : Int).toNat)).bind fun t212 => (if t212 = true then (some false) else (if 0 ≤ (wrap64 ((x6.length : Int) - 1)) then (if (wrap64 ((x6.length : Int) - 1)) ≤ (x6.length : Int) then ((leb_Get.f k (x6.take ((wrap64 ((x6.length : Int) - 1)) : Int).toNat) 0).bind fun bt217 => (if x5 = true then (some (bt217.2.2 == 5)) else (some false))) else (none)) else (none)))) else (none)) else (if 0 ≤ (wrap64 ((x6.length : Int) - 1)) then (if (wrap64 ((x6.length : Int) - 1)) ≤ (x6.length : Int) then ((leb_Get.f k (x6.take ((wrap64 ((x6.length : Int) - 1)) : Int).toNat) 0).bind fun bt224 => (if x5 = true then (some (bt224.2.2 == 5)) else (some false))) else (none)) else (none))))
def thrumlaw03_LebApart.f (k : Nat) (a0 : Int) (a1 : Int) : Option (Bool) := (thrumlaw03_live.f k).bind fun t186 => (if t186 = true then ((leb_Put.f k ([] : List Int) (([a0] : List Int))).bind fun t190 => ((leb_Put.f k ([] : List Int) (([a1] : List Int))).bind fun t196 => (if (t190.length : Int) = 0 then (thrumlaw03_LebApart.j0 k a0 a1 t186 t190 t196 true) else (if (t196.length : Int) = 0 then (thrumlaw03_LebApart.j0 k a0 a1 t186 t190 t196 true) else (if (t190.length : Int) > 10 then (thrumlaw03_LebApart.j0 k a0 a1 t186 t190 t196 true) else (if (t196.length : Int) > 10 then (thrumlaw03_LebApart.j0 k a0 a1 t186 t190 t196 true) else (if a0 ≤ a1 then (if (t190.length : Int) > (t196.length : Int) then (thrumlaw03_LebApart.j0 k a0 a1 t186 t190 t196 true) else ((leb_Size.f k a0).bind fun t199 => (thrumlaw03_LebApart.j0 k a0 a1 t186 t190 t196 (t199 != (t190.length : Int))))) else ((leb_Size.f k a0).bind fun t200 => (thrumlaw03_LebApart.j0 k a0 a1 t186 t190 t196 (t200 != (t190.length : Int))))))))))) else (some false))
theorem thrumlaw03_LebApart.mono_l : ∀ k, (∀ y0 y1 y2 y3 y4 y5, LeO (thrumlaw03_LebApart.j0 k y0 y1 y2 y3 y4 y5) (thrumlaw03_LebApart.j0 (k + 1) y0 y1 y2 y3 y4 y5))
  | 0 => fun _ _ _ _ _ _ r h => by simp [thrumlaw03_LebApart.j0] at h
  | k + 1 => by
    have ih0 := thrumlaw03_LebApart.mono_l k
    · intro y0 y1 y2 y3 y4 y5
      unfold thrumlaw03_LebApart.j0
      repeat' first
      | (with_reducible exact ih0 _ _ _ _ _ _)
      | (with_reducible exact leb_Get.mono _ _ _)
      | (with_reducible exact leb_Put.mono _ _ _)
      | (with_reducible exact leb_Size.mono _ _)
      | (with_reducible exact thrumlaw03_live.mono _)
      | (with_reducible exact LeO.refl _)
      | (with_reducible exact LeO.none _)
      | (with_reducible refine LeO.ite ?_ ?_)
      | (with_reducible refine LeO.bind ?_ (fun _ => ?_))
      | exact ih0 _ _ _ _ _ _
      | exact leb_Get.mono _ _ _
      | exact leb_Put.mono _ _ _
      | exact leb_Size.mono _ _
      | exact thrumlaw03_live.mono _
      | exact LeO.none _
      | refine LeO.ite ?_ ?_
      | refine LeO.bind ?_ (fun _ => ?_)
theorem thrumlaw03_LebApart.mono : ∀ a0 a1 k, LeO (thrumlaw03_LebApart.f k a0 a1) (thrumlaw03_LebApart.f (k + 1) a0 a1) := by
  intro a0 a1 k
  have ih0 := thrumlaw03_LebApart.mono_l k
  unfold thrumlaw03_LebApart.f
  repeat' first
      | (with_reducible exact ih0 _ _ _ _ _ _)
      | (with_reducible exact leb_Get.mono _ _ _)
      | (with_reducible exact leb_Put.mono _ _ _)
      | (with_reducible exact leb_Size.mono _ _)
      | (with_reducible exact thrumlaw03_live.mono _)
      | (with_reducible exact LeO.refl _)
      | (with_reducible exact LeO.none _)
      | (with_reducible refine LeO.ite ?_ ?_)
      | (with_reducible refine LeO.bind ?_ (fun _ => ?_))
      | exact ih0 _ _ _ _ _ _
      | exact leb_Get.mono _ _ _
      | exact leb_Put.mono _ _ _
      | exact leb_Size.mono _ _
      | exact thrumlaw03_live.mono _
      | exact LeO.none _
      | refine LeO.ite ?_ ?_
      | refine LeO.bind ?_ (fun _ => ?_)
set_option maxHeartbeats 8000000 in
set_option maxRecDepth 100000 in
theorem thrumlaw03_LebApart.calls (k : Nat) (a0 : Int) (a1 : Int) (r : Bool) (w : World) (h : thrumlaw03_LebApart.f k a0 a1 = some r) :
    Calls Try.prog 11 #[.int .u64 a0, .int .u64 a1] w fun e w' => e = .returned (.bool r) ∧ Below w.heap.size w w' := by
  have HB := Aside0.mk (Below.refl w.heap.size w)
  have H : ((thrumlaw03_live.f k).bind fun t186 => (if t186 = true then ((leb_Put.f k ([] : List Int) (([a0] : List Int))).bind fun t190 => ((leb_Put.f k ([] : List Int) (([a1] : List Int))).bind fun t196 => (if (t190.length : Int) = 0 then (thrumlaw03_LebApart.j0 k a0 a1 t186 t190 t196 true) else (if (t196.length : Int) = 0 then (thrumlaw03_LebApart.j0 k a0 a1 t186 t190 t196 true) else (if (t190.length : Int) > 10 then (thrumlaw03_LebApart.j0 k a0 a1 t186 t190 t196 true) else (if (t196.length : Int) > 10 then (thrumlaw03_LebApart.j0 k a0 a1 t186 t190 t196 true) else (if a0 ≤ a1 then (if (t190.length : Int) > (t196.length : Int) then (thrumlaw03_LebApart.j0 k a0 a1 t186 t190 t196 true) else ((leb_Size.f k a0).bind fun t199 => (thrumlaw03_LebApart.j0 k a0 a1 t186 t190 t196 (t199 != (t190.length : Int))))) else ((leb_Size.f k a0).bind fun t200 => (thrumlaw03_LebApart.j0 k a0 a1 t186 t190 t196 (t200 != (t190.length : Int))))))))))) else (some false))) = some r := h
  clear h
  replace H := Option.bind_eq_some_iff.mp H
  obtain ⟨t186, A30, H⟩ := H
  replace H : (if t186 = true then ((leb_Put.f k ([] : List Int) (([a0] : List Int))).bind fun t190 => ((leb_Put.f k ([] : List Int) (([a1] : List Int))).bind fun t196 => (if (t190.length : Int) = 0 then (thrumlaw03_LebApart.j0 k a0 a1 t186 t190 t196 true) else (if (t196.length : Int) = 0 then (thrumlaw03_LebApart.j0 k a0 a1 t186 t190 t196 true) else (if (t190.length : Int) > 10 then (thrumlaw03_LebApart.j0 k a0 a1 t186 t190 t196 true) else (if (t196.length : Int) > 10 then (thrumlaw03_LebApart.j0 k a0 a1 t186 t190 t196 true) else (if a0 ≤ a1 then (if (t190.length : Int) > (t196.length : Int) then (thrumlaw03_LebApart.j0 k a0 a1 t186 t190 t196 true) else ((leb_Size.f k a0).bind fun t199 => (thrumlaw03_LebApart.j0 k a0 a1 t186 t190 t196 (t199 != (t190.length : Int))))) else ((leb_Size.f k a0).bind fun t200 => (thrumlaw03_LebApart.j0 k a0 a1 t186 t190 t196 (t200 != (t190.length : Int))))))))))) else (some false)) = some r := H
  have A3 := Aside0.mk A30
  clear A30
  by_cases c4 : t186 = true
  · subst c4
    have H1 : ((leb_Put.f k ([] : List Int) (([a0] : List Int))).bind fun t190 => ((leb_Put.f k ([] : List Int) (([a1] : List Int))).bind fun t196 => (if (t190.length : Int) = 0 then (thrumlaw03_LebApart.j0 k a0 a1 true t190 t196 true) else (if (t196.length : Int) = 0 then (thrumlaw03_LebApart.j0 k a0 a1 true t190 t196 true) else (if (t190.length : Int) > 10 then (thrumlaw03_LebApart.j0 k a0 a1 true t190 t196 true) else (if (t196.length : Int) > 10 then (thrumlaw03_LebApart.j0 k a0 a1 true t190 t196 true) else (if a0 ≤ a1 then (if (t190.length : Int) > (t196.length : Int) then (thrumlaw03_LebApart.j0 k a0 a1 true t190 t196 true) else ((leb_Size.f k a0).bind fun t199 => (thrumlaw03_LebApart.j0 k a0 a1 true t190 t196 (t199 != (t190.length : Int))))) else ((leb_Size.f k a0).bind fun t200 => (thrumlaw03_LebApart.j0 k a0 a1 true t190 t196 (t200 != (t190.length : Int))))))))))) = some r := by first | (rw [if_pos rfl] at H; exact H) | (rw [if_pos True.intro] at H; exact H)
    clear H
    have H := H1
    clear H1
    obtain ⟨y187, hy187⟩ : ∃ y_ : List Int, y_ = (([a0] : List Int)) := ⟨_, rfl⟩
    replace H : ((leb_Put.f k ([] : List Int) y187).bind fun t190 => ((leb_Put.f k ([] : List Int) (([a1] : List Int))).bind fun t196 => (if (t190.length : Int) = 0 then (thrumlaw03_LebApart.j0 k a0 a1 true t190 t196 true) else (if (t196.length : Int) = 0 then (thrumlaw03_LebApart.j0 k a0 a1 true t190 t196 true) else (if (t190.length : Int) > 10 then (thrumlaw03_LebApart.j0 k a0 a1 true t190 t196 true) else (if (t196.length : Int) > 10 then (thrumlaw03_LebApart.j0 k a0 a1 true t190 t196 true) else (if a0 ≤ a1 then (if (t190.length : Int) > (t196.length : Int) then (thrumlaw03_LebApart.j0 k a0 a1 true t190 t196 true) else ((leb_Size.f k a0).bind fun t199 => (thrumlaw03_LebApart.j0 k a0 a1 true t190 t196 (t199 != (t190.length : Int))))) else ((leb_Size.f k a0).bind fun t200 => (thrumlaw03_LebApart.j0 k a0 a1 true t190 t196 (t200 != (t190.length : Int))))))))))) = some r := by first | (rw [hy187]; with_reducible exact H) | (have H2_ := (Option.bind_some _ _).symm.trans H; rw [hy187]; with_reducible exact H2_) | (have H2_ := (Option.bind_some _ _).symm.trans H; with_reducible exact H2_) | with_reducible exact H | (rw [hy187]; exact H) | exact H
    have Ny187 := Aside0.mk hy187
    clear hy187
    replace H := Option.bind_eq_some_iff.mp H
    obtain ⟨t190, A50, H⟩ := H
    replace H : ((leb_Put.f k ([] : List Int) (([a1] : List Int))).bind fun t196 => (if (t190.length : Int) = 0 then (thrumlaw03_LebApart.j0 k a0 a1 true t190 t196 true) else (if (t196.length : Int) = 0 then (thrumlaw03_LebApart.j0 k a0 a1 true t190 t196 true) else (if (t190.length : Int) > 10 then (thrumlaw03_LebApart.j0 k a0 a1 true t190 t196 true) else (if (t196.length : Int) > 10 then (thrumlaw03_LebApart.j0 k a0 a1 true t190 t196 true) else (if a0 ≤ a1 then (if (t190.length : Int) > (t196.length : Int) then (thrumlaw03_LebApart.j0 k a0 a1 true t190 t196 true) else ((leb_Size.f k a0).bind fun t199 => (thrumlaw03_LebApart.j0 k a0 a1 true t190 t196 (t199 != (t190.length : Int))))) else ((leb_Size.f k a0).bind fun t200 => (thrumlaw03_LebApart.j0 k a0 a1 true t190 t196 (t200 != (t190.length : Int)))))))))) = some r := H
    have A5 := Aside0.mk A50
    clear A50
    obtain ⟨y193, hy193⟩ : ∃ y_ : List Int, y_ = (([a1] : List Int)) := ⟨_, rfl⟩
    replace H : ((leb_Put.f k ([] : List Int) y193).bind fun t196 => (if (t190.length : Int) = 0 then (thrumlaw03_LebApart.j0 k a0 a1 true t190 t196 true) else (if (t196.length : Int) = 0 then (thrumlaw03_LebApart.j0 k a0 a1 true t190 t196 true) else (if (t190.length : Int) > 10 then (thrumlaw03_LebApart.j0 k a0 a1 true t190 t196 true) else (if (t196.length : Int) > 10 then (thrumlaw03_LebApart.j0 k a0 a1 true t190 t196 true) else (if a0 ≤ a1 then (if (t190.length : Int) > (t196.length : Int) then (thrumlaw03_LebApart.j0 k a0 a1 true t190 t196 true) else ((leb_Size.f k a0).bind fun t199 => (thrumlaw03_LebApart.j0 k a0 a1 true t190 t196 (t199 != (t190.length : Int))))) else ((leb_Size.f k a0).bind fun t200 => (thrumlaw03_LebApart.j0 k a0 a1 true t190 t196 (t200 != (t190.length : Int)))))))))) = some r := by first | (rw [hy193]; with_reducible exact H) | (have H2_ := (Option.bind_some _ _).symm.trans H; rw [hy193]; with_reducible exact H2_) | (have H2_ := (Option.bind_some _ _).symm.trans H; with_reducible exact H2_) | with_reducible exact H | (rw [hy193]; exact H) | exact H
    have Ny193 := Aside0.mk hy193
    clear hy193
    replace H := Option.bind_eq_some_iff.mp H
    obtain ⟨t196, A60, H⟩ := H
    replace H : (if (t190.length : Int) = 0 then (thrumlaw03_LebApart.j0 k a0 a1 true t190 t196 true) else (if (t196.length : Int) = 0 then (thrumlaw03_LebApart.j0 k a0 a1 true t190 t196 true) else (if (t190.length : Int) > 10 then (thrumlaw03_LebApart.j0 k a0 a1 true t190 t196 true) else (if (t196.length : Int) > 10 then (thrumlaw03_LebApart.j0 k a0 a1 true t190 t196 true) else (if a0 ≤ a1 then (if (t190.length : Int) > (t196.length : Int) then (thrumlaw03_LebApart.j0 k a0 a1 true t190 t196 true) else ((leb_Size.f k a0).bind fun t199 => (thrumlaw03_LebApart.j0 k a0 a1 true t190 t196 (t199 != (t190.length : Int))))) else ((leb_Size.f k a0).bind fun t200 => (thrumlaw03_LebApart.j0 k a0 a1 true t190 t196 (t200 != (t190.length : Int))))))))) = some r := H
    have A6 := Aside0.mk A60
    clear A60
    have HC7 := Aside0.mk H
    clear H
    go_enter Try.func11, Try.ntmps11
    go_upto_region 6 with (first | ((with_reducible refine gate_callee (f := 18) rfl ?_); refine goesL_ (some 11) rfl rfl Try.func18 (by kernel_rfl) rfl #[] rfl (by (try simp only [List.map_toArray, List.map_cons, List.map_nil]); first | done | rfl | (simp only [List.length_drop, List.length_take]; rfl)) ?_; (with_reducible refine (thrumlaw03_live.calls k  true _ A3.out).mono ?_); rintro e w8 ⟨rfl, hb⟩; refine ⟨_, rfl, ?_⟩; have n0_ := Aside0.mk (below_step (by repeat (first | (with_reducible first | exact HB.out | apply below_alloc | apply pw_below_drewN | apply below_drew1) | exact HB.out)) hb); clear HB; have HB := n0_; clear n0_; (try clear hb); (try clear hb2); (try clear hk); (try clear hi)) | ((with_reducible refine gate_dst (N := 15) rfl ?_); (try (refine gate_guard (by rfl) ?_; dsimp only)); refine Kd.R_lit (Kd.int .u64) _ 22 ?hg (N := 15) ?hd (xs := ([a0] : List Int)) (inner := [.int .u64 a0]) (ok := fun _ => True) (okp := fun _ => True) ?hr ?hp (fun _ hk => hk) trivial (Below.refl _ _) (Nat.le_refl _) (by simp) ?_; (case hd => rfl); (case hg => rfl); (case hr => first | (go_simp; done) | (go_simp; rfl)); (case hp => exact (Reps.one (show Kd.M (Kd.int .u64) _ _ _ a0 [.int .u64 a0] from rfl) (Reps.none _ _))); intro v188 w9 ho10 hb hg_ hnew_; clear hg_ hnew_; (first | rw [← Ny187.out] at ho10 | (simp only [Int.reduceToNat] at ho10; rw [← Ny187.out] at ho10)); have n0_ := Aside0.mk (Kd.R_lower ho10 (below_size (by repeat (first | (with_reducible first | exact HB.out | apply below_alloc | apply pw_below_drewN | apply below_drew1) | exact HB.out)))); have n1_ := Aside0.mk (below_step (by repeat (first | (with_reducible first | exact HB.out | apply below_alloc | apply pw_below_drewN | apply below_drew1) | exact HB.out)) hb); clear HB; have HO189 := n0_; have HB := n1_; clear n0_ n1_; clear hb ho10; obtain ⟨Ao11, co11, eo11⟩ := Kd.R_slice HO189.out; subst eo11) | ((with_reducible refine gate_callee (f := 32) rfl ?_); refine goesL_ (some 16) rfl rfl Try.func32 (by kernel_rfl) rfl #[.slice none 0 0, .slice Ao11 y187.length co11] rfl (by (try simp only [List.map_toArray, List.map_cons, List.map_nil]); first | done | rfl | (simp only [List.length_drop, List.length_take]; rfl)) ?_; (refine (leb_Put.calls k _ _ ([] : List Int) _ _ y187 t190 _ ?side1 ?side2 ?side3 ?side4 A5.out).mono ?_); (case side1 => exact Kd.C_nil _ _); (case side2 => exact Nat.le_refl _); (case side3 => repeat (first | exact (Kd.R_reads' HO189.out).2.2 | (with_reducible refine Kd.C_alloc ?_ _) | (with_reducible refine Kd.C_drewN ?_ _) | (with_reducible refine Kd.C_drew ?_))); (case side4 => exact (Kd.R_reads' HO189.out).2.1); rintro e w12 ⟨v191, rfl, ho0, hb⟩; refine ⟨_, rfl, ?_⟩; have n0_ := Aside0.mk (Kd.R_below (by (with_reducible repeat (first | apply Kd.R_alloc | apply Kd.R_drewN | apply Kd.R_drew)); exact HO189.out) hb); have n1_ := Aside0.mk (Kd.R_lower ho0 (below_size (by repeat (first | (with_reducible first | exact HB.out | apply below_alloc | apply pw_below_drewN | apply below_drew1) | exact HB.out)))); have n2_ := Aside0.mk (below_step (by repeat (first | (with_reducible first | exact HB.out | apply below_alloc | apply pw_below_drewN | apply below_drew1) | exact HB.out)) hb); clear HO189; clear HB; have HO189 := n0_; have HO192 := n1_; have HB := n2_; clear n0_ n1_ n2_; (try clear hb); (try clear hb2); (try clear hk); (try clear hi); (try clear ho0)) | ((with_reducible refine gate_dst (N := 18) rfl ?_); (try (refine gate_guard (by rfl) ?_; dsimp only)); refine Kd.R_lit (Kd.int .u64) _ 22 ?hg (N := 18) ?hd (xs := ([a1] : List Int)) (inner := [.int .u64 a1]) (ok := fun _ => True) (okp := fun _ => True) ?hr ?hp (fun _ hk => hk) trivial (Below.refl _ _) (Nat.le_refl _) (by simp) ?_; (case hd => rfl); (case hg => rfl); (case hr => first | (go_simp; done) | (go_simp; rfl)); (case hp => exact (Reps.one (show Kd.M (Kd.int .u64) _ _ _ a1 [.int .u64 a1] from rfl) (Reps.none _ _))); intro v194 w13 ho14 hb hg_ hnew_; clear hg_ hnew_; (first | rw [← Ny193.out] at ho14 | (simp only [Int.reduceToNat] at ho14; rw [← Ny193.out] at ho14)); have n0_ := Aside0.mk (Kd.R_elder' (by (with_reducible repeat (first | apply Kd.R_alloc | apply Kd.R_drewN | apply Kd.R_drew)); exact HO189.out) (Kd.R_base ho14) hb); have n1_ := Aside0.mk (Kd.R_below (by (with_reducible repeat (first | apply Kd.R_alloc | apply Kd.R_drewN | apply Kd.R_drew)); exact HO192.out) hb); have n2_ := Aside0.mk (Kd.R_lower (Kd.R_new' ho14 (Kd.R_lt (by (with_reducible repeat (first | apply Kd.R_alloc | apply Kd.R_drewN | apply Kd.R_drew)); exact HO189.out))) (below_size (by repeat (first | (with_reducible first | exact HB.out | apply below_alloc | apply pw_below_drewN | apply below_drew1) | exact HB.out)))); have n3_ := Aside0.mk (below_step (by repeat (first | (with_reducible first | exact HB.out | apply below_alloc | apply pw_below_drewN | apply below_drew1) | exact HB.out)) hb); clear HO189; clear HO192; clear HB; have HO189 := n0_; have HO192 := n1_; have HO195 := n2_; have HB := n3_; clear n0_ n1_ n2_ n3_; clear hb ho14; obtain ⟨Ao15, co15, eo15⟩ := Kd.R_slice HO195.out; subst eo15) | ((with_reducible refine gate_callee (f := 32) rfl ?_); refine goesL_ (some 19) rfl rfl Try.func32 (by kernel_rfl) rfl #[.slice none 0 0, .slice Ao15 y193.length co15] rfl (by (try simp only [List.map_toArray, List.map_cons, List.map_nil]); first | done | rfl | (simp only [List.length_drop, List.length_take]; rfl)) ?_; (refine (leb_Put.calls k _ _ ([] : List Int) _ _ y193 t196 _ ?side1 ?side2 ?side3 ?side4 A6.out).mono ?_); (case side1 => exact Kd.C_nil _ _); (case side2 => exact Nat.le_refl _); (case side3 => repeat (first | exact (Kd.R_reads' HO195.out).2.2 | (with_reducible refine Kd.C_alloc ?_ _) | (with_reducible refine Kd.C_drewN ?_ _) | (with_reducible refine Kd.C_drew ?_))); (case side4 => exact (Kd.R_reads' HO195.out).2.1); rintro e w16 ⟨v197, rfl, ho0, hb⟩; refine ⟨_, rfl, ?_⟩; have n0_ := Aside0.mk (Kd.R_below (by (with_reducible repeat (first | apply Kd.R_alloc | apply Kd.R_drewN | apply Kd.R_drew)); exact HO189.out) hb); have n1_ := Aside0.mk (Kd.R_elder' (by (with_reducible repeat (first | apply Kd.R_alloc | apply Kd.R_drewN | apply Kd.R_drew)); exact HO192.out) (Kd.R_base ho0) hb); have n2_ := Aside0.mk (Kd.R_below (by (with_reducible repeat (first | apply Kd.R_alloc | apply Kd.R_drewN | apply Kd.R_drew)); exact HO195.out) hb); have n3_ := Aside0.mk (Kd.R_lower (Kd.R_new' ho0 (Kd.R_lt (by (with_reducible repeat (first | apply Kd.R_alloc | apply Kd.R_drewN | apply Kd.R_drew)); exact HO192.out))) (below_size (by repeat (first | (with_reducible first | exact HB.out | apply below_alloc | apply pw_below_drewN | apply below_drew1) | exact HB.out)))); have n4_ := Aside0.mk (below_step (by repeat (first | (with_reducible first | exact HB.out | apply below_alloc | apply pw_below_drewN | apply below_drew1) | exact HB.out)) hb); clear HO189; clear HO192; clear HO195; clear HB; have HO189 := n0_; have HO192 := n1_; have HO195 := n2_; have HO198 := n3_; have HB := n4_; clear n0_ n1_ n2_ n3_ n4_; (try clear hb); (try clear hb2); (try clear hk); (try clear hi); (try clear ho0)))
    (try simp only [Act.put, List.setIfInBounds_toArray, List.set_cons_zero, List.set_cons_succ])
    go_cut [56] (fun v56 wc => ∃ (kq : Nat) (x56_6 : Bool), v56 = .bool x56_6 ∧ Aside0 (thrumlaw03_LebApart.j0 kq a0 a1 true t190 t196 x56_6 = some r) ∧ Aside0 (kq ≤ k) ∧ Aside0 (Kd.R (Kd.int .u8) 5 wc w.heap.size (fun k_ => some k_ ≠ (v197 : Value).ownBlock) v191 t190) ∧ Aside0 (Kd.R (Kd.int .u8) 5 wc w.heap.size (fun k_ => some k_ ≠ (v191 : Value).ownBlock) v197 t196) ∧ Aside0 (Below w.heap.size w wc))
    case first =>
      have H := HC7.out
      clear HC7
      by_cases c17 : (t190.length : Int) = 0
      · rw [if_pos c17] at H
        have c17b0 : ((t190.length : Int) == 0) = true := beq_iff_eq.mpr c17
        have c17b1 : ((t190.length : Int) != 0) = false := bne_eq_false_iff_eq.mpr c17
        clear c17
        (first | rw [c17b0] | (simp only [i64_w, i32_w]; rw [c17b0]) | skip)
        have H' := Aside0.mk H
        clear H
        obtain ⟨Ao18, co18, eo18⟩ := Kd.R_slice HO192.out
        subst eo18
        go_wp2
        go_meet
        case rel => exact ⟨_, (true), (by first | rfl | (simp; done) | (simp [*]; done)), H', ⟨by first | omega | exact Nat.le_refl _⟩, ⟨by (with_reducible repeat (first | apply Kd.R_alloc | apply Kd.R_drewN | apply Kd.R_drew)); exact Kd.R_mono HO192.out (fun _ hk => hk.2)⟩, ⟨by (with_reducible repeat (first | apply Kd.R_alloc | apply Kd.R_drewN | apply Kd.R_drew)); exact Kd.R_mono HO198.out (fun _ hk => hk.2)⟩, ⟨by repeat (first | (with_reducible first | exact HB.out | apply below_alloc | apply pw_below_drewN | apply below_drew1) | exact HB.out)⟩⟩
      · rw [if_neg c17] at H
        have c17b0 : ((t190.length : Int) == 0) = false := beq_eq_false_iff_ne.mpr c17
        have c17b1 : ((t190.length : Int) != 0) = true := bne_iff_ne.mpr c17
        have c17b2 : ¬ (t190 = []) := fun h_ => c17 (by rw [h_]; rfl)
        (first | rw [c17b0] | (simp only [i64_w, i32_w]; rw [c17b0]) | skip)
        by_cases c19 : (t196.length : Int) = 0
        · rw [if_pos c19] at H
          have c19b0 : ((t196.length : Int) == 0) = true := beq_iff_eq.mpr c19
          have c19b1 : ((t196.length : Int) != 0) = false := bne_eq_false_iff_eq.mpr c19
          clear c19
          have H' := Aside0.mk H
          clear H
          obtain ⟨Ao20, co20, eo20⟩ := Kd.R_slice HO192.out
          subst eo20
          obtain ⟨Ao21, co21, eo21⟩ := Kd.R_slice HO198.out
          subst eo21
          go_wp2
          go_meet
          case rel => exact ⟨_, (true), (by first | rfl | (simp; done) | (simp [*]; done)), H', ⟨by first | omega | exact Nat.le_refl _⟩, ⟨by (with_reducible repeat (first | apply Kd.R_alloc | apply Kd.R_drewN | apply Kd.R_drew)); exact Kd.R_mono HO192.out (fun _ hk => hk.2)⟩, ⟨by (with_reducible repeat (first | apply Kd.R_alloc | apply Kd.R_drewN | apply Kd.R_drew)); exact Kd.R_mono HO198.out (fun _ hk => hk.2)⟩, ⟨by repeat (first | (with_reducible first | exact HB.out | apply below_alloc | apply pw_below_drewN | apply below_drew1) | exact HB.out)⟩⟩
        · rw [if_neg c19] at H
          have c19b0 : ((t196.length : Int) == 0) = false := beq_eq_false_iff_ne.mpr c19
          have c19b1 : ((t196.length : Int) != 0) = true := bne_iff_ne.mpr c19
          have c19b2 : ¬ (t196 = []) := fun h_ => c19 (by rw [h_]; rfl)
          by_cases c22 : (t190.length : Int) > 10
          · rw [if_pos c22] at H
            have c22b0 : decide (10 < (t190.length : Int)) = true := decide_eq_true c22
            have c22b1 : decide (10 < t190.length) = true := decide_eq_true (by omega)
            clear c22
            have H' := Aside0.mk H
            clear H
            obtain ⟨Ao23, co23, eo23⟩ := Kd.R_slice HO192.out
            subst eo23
            obtain ⟨Ao24, co24, eo24⟩ := Kd.R_slice HO198.out
            subst eo24
            go_wp2
            go_meet
            case rel => exact ⟨_, (true), (by first | rfl | (simp; done) | (simp [*]; done)), H', ⟨by first | omega | exact Nat.le_refl _⟩, ⟨by (with_reducible repeat (first | apply Kd.R_alloc | apply Kd.R_drewN | apply Kd.R_drew)); exact Kd.R_mono HO192.out (fun _ hk => hk.2)⟩, ⟨by (with_reducible repeat (first | apply Kd.R_alloc | apply Kd.R_drewN | apply Kd.R_drew)); exact Kd.R_mono HO198.out (fun _ hk => hk.2)⟩, ⟨by repeat (first | (with_reducible first | exact HB.out | apply below_alloc | apply pw_below_drewN | apply below_drew1) | exact HB.out)⟩⟩
          · rw [if_neg c22] at H
            have c22b0 : decide (10 < (t190.length : Int)) = false := decide_eq_false c22
            have c22b1 : decide (10 < t190.length) = false := decide_eq_false (by omega)
            clear c22
            by_cases c25 : (t196.length : Int) > 10
            · rw [if_pos c25] at H
              have c25b0 : decide (10 < (t196.length : Int)) = true := decide_eq_true c25
              have c25b1 : decide (10 < t196.length) = true := decide_eq_true (by omega)
              clear c25
              have H' := Aside0.mk H
              clear H
              obtain ⟨Ao26, co26, eo26⟩ := Kd.R_slice HO192.out
              subst eo26
              obtain ⟨Ao27, co27, eo27⟩ := Kd.R_slice HO198.out
              subst eo27
              go_wp2
              go_meet
              case rel => exact ⟨_, (true), (by first | rfl | (simp; done) | (simp [*]; done)), H', ⟨by first | omega | exact Nat.le_refl _⟩, ⟨by (with_reducible repeat (first | apply Kd.R_alloc | apply Kd.R_drewN | apply Kd.R_drew)); exact Kd.R_mono HO192.out (fun _ hk => hk.2)⟩, ⟨by (with_reducible repeat (first | apply Kd.R_alloc | apply Kd.R_drewN | apply Kd.R_drew)); exact Kd.R_mono HO198.out (fun _ hk => hk.2)⟩, ⟨by repeat (first | (with_reducible first | exact HB.out | apply below_alloc | apply pw_below_drewN | apply below_drew1) | exact HB.out)⟩⟩
            · rw [if_neg c25] at H
              have c25b0 : decide (10 < (t196.length : Int)) = false := decide_eq_false c25
              have c25b1 : decide (10 < t196.length) = false := decide_eq_false (by omega)
              clear c25
              by_cases c28 : a0 ≤ a1
              · rw [if_pos c28] at H
                have c28b0 : decide (a0 ≤ a1) = true := decide_eq_true c28
                clear c28
                by_cases c29 : (t190.length : Int) > (t196.length : Int)
                · rw [if_pos c29] at H
                  have c29b0 : decide ((t196.length : Int) < (t190.length : Int)) = true := decide_eq_true c29
                  have c29b1 : decide (t196.length < t190.length) = true := decide_eq_true (Int.ofNat_lt.mp c29)
                  clear c29
                  have H' := Aside0.mk H
                  clear H
                  obtain ⟨Ao30, co30, eo30⟩ := Kd.R_slice HO192.out
                  subst eo30
                  obtain ⟨Ao31, co31, eo31⟩ := Kd.R_slice HO198.out
                  subst eo31
                  go_wp2
                  go_meet
                  case rel => exact ⟨_, (true), (by first | rfl | (simp; done) | (simp [*]; done)), H', ⟨by first | omega | exact Nat.le_refl _⟩, ⟨by (with_reducible repeat (first | apply Kd.R_alloc | apply Kd.R_drewN | apply Kd.R_drew)); exact Kd.R_mono HO192.out (fun _ hk => hk.2)⟩, ⟨by (with_reducible repeat (first | apply Kd.R_alloc | apply Kd.R_drewN | apply Kd.R_drew)); exact Kd.R_mono HO198.out (fun _ hk => hk.2)⟩, ⟨by repeat (first | (with_reducible first | exact HB.out | apply below_alloc | apply pw_below_drewN | apply below_drew1) | exact HB.out)⟩⟩
                · rw [if_neg c29] at H
                  have c29b0 : decide ((t196.length : Int) < (t190.length : Int)) = false := decide_eq_false c29
                  have c29b1 : decide (t196.length < t190.length) = false := decide_eq_false (fun h => c29 (Int.ofNat_lt.mpr h))
                  clear c29
                  replace H := Option.bind_eq_some_iff.mp H
                  obtain ⟨t199, A320, H⟩ := H
                  replace H : (thrumlaw03_LebApart.j0 k a0 a1 true t190 t196 (t199 != (t190.length : Int))) = some r := H
                  have A32 := Aside0.mk A320
                  clear A320
                  have H' := Aside0.mk H
                  clear H
                  obtain ⟨Ao33, co33, eo33⟩ := Kd.R_slice HO192.out
                  subst eo33
                  obtain ⟨Ao34, co34, eo34⟩ := Kd.R_slice HO198.out
                  subst eo34
                  go_wp2_with (first | (go_at_call 35; (with_reducible refine (leb_Size.calls k a0 t199 _ A32.out).mono ?_); rintro e w' ⟨rfl, ⟨nd, rfl⟩⟩))
                  go_meet
                  case rel => exact ⟨_, ((t199 != (t190.length : Int))), (by first | rfl | (simp; done) | (simp [*]; done)), H', ⟨by first | omega | exact Nat.le_refl _⟩, ⟨by (with_reducible repeat (first | apply Kd.R_alloc | apply Kd.R_drewN | apply Kd.R_drew)); exact Kd.R_mono HO192.out (fun _ hk => hk.2)⟩, ⟨by (with_reducible repeat (first | apply Kd.R_alloc | apply Kd.R_drewN | apply Kd.R_drew)); exact Kd.R_mono HO198.out (fun _ hk => hk.2)⟩, ⟨by repeat (first | (with_reducible first | exact HB.out | apply below_alloc | apply pw_below_drewN | apply below_drew1) | exact HB.out)⟩⟩
              · rw [if_neg c28] at H
                have c28b0 : decide (a0 ≤ a1) = false := decide_eq_false c28
                clear c28
                replace H := Option.bind_eq_some_iff.mp H
                obtain ⟨t200, A350, H⟩ := H
                replace H : (thrumlaw03_LebApart.j0 k a0 a1 true t190 t196 (t200 != (t190.length : Int))) = some r := H
                have A35 := Aside0.mk A350
                clear A350
                have H' := Aside0.mk H
                clear H
                obtain ⟨Ao36, co36, eo36⟩ := Kd.R_slice HO192.out
                subst eo36
                obtain ⟨Ao37, co37, eo37⟩ := Kd.R_slice HO198.out
                subst eo37
                go_wp2_with (first | (go_at_call 35; (with_reducible refine (leb_Size.calls k a0 t200 _ A35.out).mono ?_); rintro e w' ⟨rfl, ⟨nd, rfl⟩⟩))
                go_meet
                case rel => exact ⟨_, ((t200 != (t190.length : Int))), (by first | rfl | (simp; done) | (simp [*]; done)), H', ⟨by first | omega | exact Nat.le_refl _⟩, ⟨by (with_reducible repeat (first | apply Kd.R_alloc | apply Kd.R_drewN | apply Kd.R_drew)); exact Kd.R_mono HO192.out (fun _ hk => hk.2)⟩, ⟨by (with_reducible repeat (first | apply Kd.R_alloc | apply Kd.R_drewN | apply Kd.R_drew)); exact Kd.R_mono HO198.out (fun _ hk => hk.2)⟩, ⟨by repeat (first | (with_reducible first | exact HB.out | apply below_alloc | apply pw_below_drewN | apply below_drew1) | exact HB.out)⟩⟩
    case rest =>
      clear HC7
      try clear c1
      try clear c2
      try clear p2
      try clear c3
      try clear c4
      try clear c11
      try clear c17
      try clear c17b0
      try clear c17b1
      try clear c17b2
      try clear c18
      try clear c19
      try clear c19b0
      try clear c19b1
      try clear c19b2
      try clear c22
      try clear c22b0
      try clear c22b1
      try clear c25
      try clear c25b0
      try clear c25b1
      try clear c28
      try clear c28b0
      try clear c29
      try clear c29b0
      try clear c29b1
      try clear c32
      obtain ⟨kq, x56_6, rfl, HA, HJ6, HO_6, HO_7, HB⟩ := hcut
      cases kq with
      | zero => exact absurd HA.out (by simp [thrumlaw03_LebApart.j0])
      | succ kj6 =>
        have H := HA.out
        clear HA
        simp only [thrumlaw03_LebApart.j0] at H
        by_cases c38 : x56_6 = true
        · subst c38
          have H1 : (some false) = some r := by first | (rw [if_pos rfl] at H; exact H) | (rw [if_pos True.intro] at H; exact H)
          clear H
          have H := H1
          clear H1
          obtain rfl := Option.some.inj H
          go_wp2
          go_ret
          exact ⟨by first | rfl | (simp [errW_none, errW_some] <;> rfl) | (simp [*, errW_none, errW_some] <;> rfl), by repeat (first | (with_reducible first | exact HB.out | apply below_alloc | apply pw_below_drewN | apply below_drew1) | exact HB.out)⟩
        · replace c38 := Bool.eq_false_iff.mpr c38
          subst c38
          have H1 : (if a0 = a1 then (if 0 ≤ (wrap64 ((t190.length : Int) - 1)) then (if (wrap64 ((t190.length : Int) - 1)) ≤ (t190.length : Int) then ((leb_Get.f kj6 (t190.take ((wrap64 ((t190.length : Int) - 1)) : Int).toNat) 0).bind fun bt205 => (if true = true then (some (bt205.2.2 == 5)) else (some false))) else (none)) else (none)) else (if (t190.length : Int) ≤ (t196.length : Int) then (if 0 ≤ (t190.length : Int) then ((thrumref03_Same.f t190 (t196.take ((t190.length : Int) : Int).toNat)).bind fun t212 => (if t212 = true then (some false) else (if 0 ≤ (wrap64 ((t190.length : Int) - 1)) then (if (wrap64 ((t190.length : Int) - 1)) ≤ (t190.length : Int) then ((leb_Get.f kj6 (t190.take ((wrap64 ((t190.length : Int) - 1)) : Int).toNat) 0).bind fun bt217 => (if true = true then (some (bt217.2.2 == 5)) else (some false))) else (none)) else (none)))) else (none)) else (if 0 ≤ (wrap64 ((t190.length : Int) - 1)) then (if (wrap64 ((t190.length : Int) - 1)) ≤ (t190.length : Int) then ((leb_Get.f kj6 (t190.take ((wrap64 ((t190.length : Int) - 1)) : Int).toNat) 0).bind fun bt224 => (if true = true then (some (bt224.2.2 == 5)) else (some false))) else (none)) else (none)))) = some r := by rw [if_neg (show ¬ (false = true) by decide)] at H; exact H
          clear H
          have H := H1
          clear H1
          by_cases c39 : a0 = a1
          · rw [if_pos c39] at H
            have c39b0 : (a0 == a1) = true := beq_iff_eq.mpr c39
            have c39b1 : (a0 != a1) = false := bne_eq_false_iff_eq.mpr c39
            clear c39
            obtain ⟨ji40, hji40⟩ : ∃ j_ : Int, (wrap64 ((t190.length : Int) - 1)) = j_ := ⟨_, rfl⟩
            replace H : (if 0 ≤ (ji40) then (if (ji40) ≤ (t190.length : Int) then ((leb_Get.f kj6 (t190.take ((ji40) : Int).toNat) 0).bind fun bt205 => (if true = true then (some (bt205.2.2 == 5)) else (some false))) else (none)) else (none)) = some r := by first | (rw [hji40] at H; exact H) | (simp only [hji40] at H ⊢; exact H)
            have hji40w : (IntKind.i64.wrap ((t190.length : Int) - 1)) = ji40 := (i64_w _).trans hji40
            by_cases c41 : 0 ≤ (ji40)
            · rw [if_pos c41] at H
              have c41b0 := eq_true c41
              have c41b1 : decide (0 ≤ (ji40)) = true := decide_eq_true c41
              clear c41
              by_cases c42 : (ji40) ≤ (t190.length : Int)
              · rw [if_pos c42] at H
                have c42b0 := eq_true c42
                have c42b1 : decide ((ji40) ≤ (t190.length : Int)) = true := decide_eq_true c42
                clear c42
                obtain ⟨y201, hy201⟩ : ∃ y_ : List Int, y_ = (t190.take ((ji40) : Int).toNat) := ⟨_, rfl⟩
                replace H : ((leb_Get.f kj6 y201 0).bind fun bt205 => (if true = true then (some (bt205.2.2 == 5)) else (some false))) = some r := by first | (rw [hy201]; with_reducible exact H) | (have H2_ := (Option.bind_some _ _).symm.trans H; rw [hy201]; with_reducible exact H2_) | (have H2_ := (Option.bind_some _ _).symm.trans H; with_reducible exact H2_) | with_reducible exact H | (rw [hy201]; exact H) | exact H
                have Ny201 := Aside0.mk hy201
                clear hy201
                replace H := Option.bind_eq_some_iff.mp H
                obtain ⟨⟨t205, t206, t207⟩, A430, H⟩ := H
                replace H : (if true = true then (some (t207 == 5)) else (some false)) = some r := H
                have A43 := Aside0.mk A430
                clear A430
                by_cases c44 : true = true
                · clear c44
                  have H1 : (some (t207 == 5)) = some r := by first | (rw [if_pos rfl] at H; exact H) | (rw [if_pos True.intro] at H; exact H)
                  clear H
                  have H := H1
                  clear H1
                  obtain rfl := Option.some.inj H
                  obtain ⟨Ao45, co45, eo45⟩ := Kd.R_slice HO_6.out
                  subst eo45
                  have q46 : ((ji40) : Int) ≤ ((t190.length : Int) : Int) := of_decide_eq_true (by first | (with_reducible assumption) | assumption)
                  obtain ⟨i046, hi046, _, hsz46, _⟩ := info_parts info5
                  have hroom46 : t190.length ≤ co45 := (Kd.R_reads' HO_6.out).2.1
                  have hC46 : Kd.C (Kd.int .u8) _ Ao45 t190.length t190 := (Kd.R_reads' HO_6.out).2.2
                  have hcut46 := cut_to (P := Try.prog) 46 5 .i64 Try.underlying46 hi046 Ao45 t190.length co45 (ji40) (of_decide_eq_true (by first | (with_reducible assumption) | assumption)) q46 hroom46
                  have hr46 := Kd.C_take (m := ((ji40) : Int).toNat) hC46 (by omega)
                  have hy46 : y201.length = ((ji40) : Int).toNat := (by rw [Ny201.out, List.length_take]; omega)
                  rw [← Ny201.out] at hr46
                  rw [← hy46] at hcut46
                  have HR204 := Aside0.mk hr46
                  have HC204 := Aside0.mk (show y201.length ≤ co45 from by omega)
                  clear hr46 hC46 hroom46 hi046 hsz46
                  have KY46 := Aside0.mk hy46
                  clear hy46
                  have KL46 := Aside0.mk (show ((ji40) : Int).toNat ≤ t190.length from by omega)
                  replace q46 := eq_true q46; (try (have q46s := q46; rw [List.length_drop] at q46s)); (try (have q46t := q46; rw [List.length_take] at q46t))
                  go_wp2_with (first | ((with_reducible refine gate_callee (f := 37) rfl ?_); refine goesL_ (some 81) rfl rfl Try.func37 (by kernel_rfl) rfl #[.slice Ao45 y201.length co45, .int .i64 0] rfl (by (try simp only [List.map_toArray, List.map_cons, List.map_nil]); first | done | rfl | (simp only [List.length_drop, List.length_take]; rfl)) ?_; (with_reducible refine (leb_Get.calls kj6 _ _ y201 0 t205 t206 t207 _ ?side1 ?side2 A43.out).mono ?_); (case side1 => repeat (first | exact (by repeat (first | (with_reducible exact HR204.out) | (with_reducible refine Kd.C_alloc ?_ _) | (with_reducible refine Kd.C_drewN ?_ _) | (with_reducible refine Kd.C_drew ?_) | exact HR204.out)) | (with_reducible refine Kd.C_alloc ?_ _) | (with_reducible refine Kd.C_drewN ?_ _) | (with_reducible refine Kd.C_drew ?_))); (case side2 => exact HC204.out); rintro e w47 ⟨rfl, hb⟩; refine ⟨_, rfl, ?_⟩; have n0_ := Aside0.mk (Kd.R_below (by (with_reducible repeat (first | apply Kd.R_alloc | apply Kd.R_drewN | apply Kd.R_drew)); exact HO_6.out) hb); have n1_ := Aside0.mk (Kd.R_below (by (with_reducible repeat (first | apply Kd.R_alloc | apply Kd.R_drewN | apply Kd.R_drew)); exact HO_7.out) hb); have n2_ := Aside0.mk (Kd.C_below (by repeat (first | (with_reducible exact HR204.out) | (with_reducible refine Kd.C_alloc ?_ _) | (with_reducible refine Kd.C_drewN ?_ _) | (with_reducible refine Kd.C_drew ?_) | exact HR204.out)) hb); have n3_ := Aside0.mk (below_step (by repeat (first | (with_reducible first | exact HB.out | apply below_alloc | apply pw_below_drewN | apply below_drew1) | exact HB.out)) hb); clear HO_6; clear HO_7; clear HR204; clear HB; have HO_6 := n0_; have HO_7 := n1_; have HR204 := n2_; have HB := n3_; clear n0_ n1_ n2_ n3_; (try clear hb); (try clear hb2); (try clear hk); (try clear hi)))
                  go_ret
                  exact ⟨by first | rfl | (simp [errW_none, errW_some] <;> rfl) | (simp only [← hji40]; first | rfl | (simp [errW_none, errW_some] <;> rfl)) | (simp [*, errW_none, errW_some] <;> rfl), by repeat (first | (with_reducible first | exact HB.out | apply below_alloc | apply pw_below_drewN | apply below_drew1) | exact HB.out)⟩
                · exact absurd rfl c44
              · rw [if_neg c42] at H
                exact absurd H (by simp)
            · rw [if_neg c41] at H
              exact absurd H (by simp)
          · rw [if_neg c39] at H
            have c39b0 : (a0 == a1) = false := beq_eq_false_iff_ne.mpr c39
            have c39b1 : (a0 != a1) = true := bne_iff_ne.mpr c39
            by_cases c51 : (t190.length : Int) ≤ (t196.length : Int)
            · rw [if_pos c51] at H
              have c51b0 : decide ((t190.length : Int) ≤ (t196.length : Int)) = true := decide_eq_true c51
              have c51b1 : decide (t190.length ≤ t196.length) = true := decide_eq_true (Int.ofNat_le.mp c51)
              clear c51
              by_cases c52 : 0 ≤ (t190.length : Int)
              · rw [if_pos c52] at H
                have c52b0 := eq_true c52
                have c52b1 : decide (0 ≤ (t190.length : Int)) = true := decide_eq_true c52
                clear c52
                have c53b0 := eq_true (of_decide_eq_true (by first | (with_reducible assumption) | assumption) : (t190.length : Int) ≤ (t196.length : Int))
                obtain ⟨y208, hy208⟩ : ∃ y_ : List Int, y_ = (t196.take ((t190.length : Int) : Int).toNat) := ⟨_, rfl⟩
                replace H : ((thrumref03_Same.f t190 y208).bind fun t212 => (if t212 = true then (some false) else (if 0 ≤ (wrap64 ((t190.length : Int) - 1)) then (if (wrap64 ((t190.length : Int) - 1)) ≤ (t190.length : Int) then ((leb_Get.f kj6 (t190.take ((wrap64 ((t190.length : Int) - 1)) : Int).toNat) 0).bind fun bt217 => (if true = true then (some (bt217.2.2 == 5)) else (some false))) else (none)) else (none)))) = some r := by first | (rw [hy208]; with_reducible exact H) | (have H2_ := (Option.bind_some _ _).symm.trans H; rw [hy208]; with_reducible exact H2_) | (have H2_ := (Option.bind_some _ _).symm.trans H; with_reducible exact H2_) | with_reducible exact H | (rw [hy208]; exact H) | exact H
                have Ny208 := Aside0.mk hy208
                clear hy208
                replace H := Option.bind_eq_some_iff.mp H
                obtain ⟨t212, A540, H⟩ := H
                replace H : (if t212 = true then (some false) else (if 0 ≤ (wrap64 ((t190.length : Int) - 1)) then (if (wrap64 ((t190.length : Int) - 1)) ≤ (t190.length : Int) then ((leb_Get.f kj6 (t190.take ((wrap64 ((t190.length : Int) - 1)) : Int).toNat) 0).bind fun bt217 => (if true = true then (some (bt217.2.2 == 5)) else (some false))) else (none)) else (none))) = some r := H
                have A54 := Aside0.mk A540
                clear A540
                by_cases c55 : t212 = true
                · subst c55
                  have H1 : (some false) = some r := by first | (rw [if_pos rfl] at H; exact H) | (rw [if_pos True.intro] at H; exact H)
                  clear H
                  have H := H1
                  clear H1
                  obtain rfl := Option.some.inj H
                  obtain ⟨Ao56, co56, eo56⟩ := Kd.R_slice HO_6.out
                  subst eo56
                  obtain ⟨Ao57, co57, eo57⟩ := Kd.R_slice HO_7.out
                  subst eo57
                  have q58 : ((t190.length : Int) : Int) ≤ ((t196.length : Int) : Int) := of_decide_eq_true (by first | (with_reducible assumption) | assumption)
                  obtain ⟨i058, hi058, _, hsz58, _⟩ := info_parts info5
                  have hroom58 : t196.length ≤ co57 := (Kd.R_reads' HO_7.out).2.1
                  have hC58 : Kd.C (Kd.int .u8) _ Ao57 t196.length t196 := (Kd.R_reads' HO_7.out).2.2
                  have hcut58 := cut_to (P := Try.prog) 46 5 .i64 Try.underlying46 hi058 Ao57 t196.length co57 (t190.length : Int) (of_decide_eq_true (by first | (with_reducible assumption) | assumption)) q58 hroom58
                  have hr58 := Kd.C_take (m := ((t190.length : Int) : Int).toNat) hC58 (by omega)
                  have hy58 : y208.length = ((t190.length : Int) : Int).toNat := (by rw [Ny208.out, List.length_take]; omega)
                  rw [← Ny208.out] at hr58
                  rw [← hy58] at hcut58
                  have HR211 := Aside0.mk hr58
                  have HC211 := Aside0.mk (show y208.length ≤ co57 from by omega)
                  clear hr58 hC58 hroom58 hi058 hsz58
                  have KY58 := Aside0.mk hy58
                  clear hy58
                  have KL58 := Aside0.mk (show ((t190.length : Int) : Int).toNat ≤ t196.length from by omega)
                  replace q58 := eq_true q58; (try (have q58s := q58; rw [List.length_drop] at q58s)); (try (have q58t := q58; rw [List.length_take] at q58t))
                  go_wp2_with (first | (go_at_call 36; (with_reducible refine (thrumref03_Same.calls _ _ t190 _ _ y208 true _ ?side1 ?side2 ?side3 ?side4 A54.out).mono ?_); (case side1 => repeat (first | exact (Kd.R_reads' HO_6.out).2.2 | (with_reducible refine Kd.C_alloc ?_ _) | (with_reducible refine Kd.C_drewN ?_ _) | (with_reducible refine Kd.C_drew ?_))); (case side2 => exact (Kd.R_reads' HO_6.out).2.1); (case side3 => repeat (first | exact (by repeat (first | (with_reducible exact HR211.out) | (with_reducible refine Kd.C_alloc ?_ _) | (with_reducible refine Kd.C_drewN ?_ _) | (with_reducible refine Kd.C_drew ?_) | exact HR211.out)) | (with_reducible refine Kd.C_alloc ?_ _) | (with_reducible refine Kd.C_drewN ?_ _) | (with_reducible refine Kd.C_drew ?_))); (case side4 => exact HC211.out); rintro e w' ⟨rfl, ⟨nd, rfl⟩⟩))
                  go_ret
                  exact ⟨by first | rfl | (simp [errW_none, errW_some] <;> rfl) | (simp [*, errW_none, errW_some] <;> rfl), by repeat (first | (with_reducible first | exact HB.out | apply below_alloc | apply pw_below_drewN | apply below_drew1) | exact HB.out)⟩
                · replace c55 := Bool.eq_false_iff.mpr c55
                  subst c55
                  have H1 : (if 0 ≤ (wrap64 ((t190.length : Int) - 1)) then (if (wrap64 ((t190.length : Int) - 1)) ≤ (t190.length : Int) then ((leb_Get.f kj6 (t190.take ((wrap64 ((t190.length : Int) - 1)) : Int).toNat) 0).bind fun bt217 => (if true = true then (some (bt217.2.2 == 5)) else (some false))) else (none)) else (none)) = some r := by rw [if_neg (show ¬ (false = true) by decide)] at H; exact H
                  clear H
                  have H := H1
                  clear H1
                  obtain ⟨ji59, hji59⟩ : ∃ j_ : Int, (wrap64 ((t190.length : Int) - 1)) = j_ := ⟨_, rfl⟩
                  replace H : (if 0 ≤ (ji59) then (if (ji59) ≤ (t190.length : Int) then ((leb_Get.f kj6 (t190.take ((ji59) : Int).toNat) 0).bind fun bt217 => (if true = true then (some (bt217.2.2 == 5)) else (some false))) else (none)) else (none)) = some r := by first | (rw [hji59] at H; exact H) | (simp only [hji59] at H ⊢; exact H)
                  (try rw [hji59] at A54)
                  have hji59w : (IntKind.i64.wrap ((t190.length : Int) - 1)) = ji59 := (i64_w _).trans hji59
                  by_cases c60 : 0 ≤ (ji59)
                  · rw [if_pos c60] at H
                    have c60b0 := eq_true c60
                    have c60b1 : decide (0 ≤ (ji59)) = true := decide_eq_true c60
                    clear c60
                    by_cases c61 : (ji59) ≤ (t190.length : Int)
                    · rw [if_pos c61] at H
                      have c61b0 := eq_true c61
                      have c61b1 : decide ((ji59) ≤ (t190.length : Int)) = true := decide_eq_true c61
                      clear c61
                      obtain ⟨y213, hy213⟩ : ∃ y_ : List Int, y_ = (t190.take ((ji59) : Int).toNat) := ⟨_, rfl⟩
                      replace H : ((leb_Get.f kj6 y213 0).bind fun bt217 => (if true = true then (some (bt217.2.2 == 5)) else (some false))) = some r := by first | (rw [hy213]; with_reducible exact H) | (have H2_ := (Option.bind_some _ _).symm.trans H; rw [hy213]; with_reducible exact H2_) | (have H2_ := (Option.bind_some _ _).symm.trans H; with_reducible exact H2_) | with_reducible exact H | (rw [hy213]; exact H) | exact H
                      have Ny213 := Aside0.mk hy213
                      clear hy213
                      replace H := Option.bind_eq_some_iff.mp H
                      obtain ⟨⟨t217, t218, t219⟩, A620, H⟩ := H
                      replace H : (if true = true then (some (t219 == 5)) else (some false)) = some r := H
                      have A62 := Aside0.mk A620
                      clear A620
                      by_cases c63 : true = true
                      · clear c63
                        have H1 : (some (t219 == 5)) = some r := by first | (rw [if_pos rfl] at H; exact H) | (rw [if_pos True.intro] at H; exact H)
                        clear H
                        have H := H1
                        clear H1
                        obtain rfl := Option.some.inj H
                        obtain ⟨Ao64, co64, eo64⟩ := Kd.R_slice HO_6.out
                        subst eo64
                        obtain ⟨Ao65, co65, eo65⟩ := Kd.R_slice HO_7.out
                        subst eo65
                        have q66 : ((t190.length : Int) : Int) ≤ ((t196.length : Int) : Int) := of_decide_eq_true (by first | (with_reducible assumption) | assumption)
                        obtain ⟨i066, hi066, _, hsz66, _⟩ := info_parts info5
                        have hroom66 : t196.length ≤ co65 := (Kd.R_reads' HO_7.out).2.1
                        have hC66 : Kd.C (Kd.int .u8) _ Ao65 t196.length t196 := (Kd.R_reads' HO_7.out).2.2
                        have hcut66 := cut_to (P := Try.prog) 46 5 .i64 Try.underlying46 hi066 Ao65 t196.length co65 (t190.length : Int) (of_decide_eq_true (by first | (with_reducible assumption) | assumption)) q66 hroom66
                        have hr66 := Kd.C_take (m := ((t190.length : Int) : Int).toNat) hC66 (by omega)
                        have hy66 : y208.length = ((t190.length : Int) : Int).toNat := (by rw [Ny208.out, List.length_take]; omega)
                        rw [← Ny208.out] at hr66
                        rw [← hy66] at hcut66
                        have HR211 := Aside0.mk hr66
                        have HC211 := Aside0.mk (show y208.length ≤ co65 from by omega)
                        clear hr66 hC66 hroom66 hi066 hsz66
                        have KY66 := Aside0.mk hy66
                        clear hy66
                        have KL66 := Aside0.mk (show ((t190.length : Int) : Int).toNat ≤ t196.length from by omega)
                        replace q66 := eq_true q66; (try (have q66s := q66; rw [List.length_drop] at q66s)); (try (have q66t := q66; rw [List.length_take] at q66t))
                        go_wp2_with (first | (go_at_call 36; (with_reducible refine (thrumref03_Same.calls _ _ t190 _ _ y208 false _ ?side1 ?side2 ?side3 ?side4 A54.out).mono ?_); (case side1 => repeat (first | exact (Kd.R_reads' HO_6.out).2.2 | (with_reducible refine Kd.C_alloc ?_ _) | (with_reducible refine Kd.C_drewN ?_ _) | (with_reducible refine Kd.C_drew ?_))); (case side2 => exact (Kd.R_reads' HO_6.out).2.1); (case side3 => repeat (first | exact (by repeat (first | (with_reducible exact HR211.out) | (with_reducible refine Kd.C_alloc ?_ _) | (with_reducible refine Kd.C_drewN ?_ _) | (with_reducible refine Kd.C_drew ?_) | exact HR211.out)) | (with_reducible refine Kd.C_alloc ?_ _) | (with_reducible refine Kd.C_drewN ?_ _) | (with_reducible refine Kd.C_drew ?_))); (case side4 => exact HC211.out); rintro e w' ⟨rfl, ⟨nd, rfl⟩⟩; have q67 : ((ji59) : Int) ≤ ((t190.length : Int) : Int) := of_decide_eq_true (by first | (with_reducible assumption) | assumption); obtain ⟨i067, hi067, _, hsz67, _⟩ := info_parts info5; have hroom67 : t190.length ≤ co64 := (Kd.R_reads' HO_6.out).2.1; have hC67 : Kd.C (Kd.int .u8) _ Ao64 t190.length t190 := (Kd.R_reads' HO_6.out).2.2; have hcut67 := cut_to (P := Try.prog) 46 5 .i64 Try.underlying46 hi067 Ao64 t190.length co64 (ji59) (of_decide_eq_true (by first | (with_reducible assumption) | assumption)) q67 hroom67; have hr67 := Kd.C_take (m := ((ji59) : Int).toNat) hC67 (by omega); have hy67 : y213.length = ((ji59) : Int).toNat := (by rw [Ny213.out, List.length_take]; omega); rw [← Ny213.out] at hr67; rw [← hy67] at hcut67; have HR216 := Aside0.mk hr67; have HC216 := Aside0.mk (show y213.length ≤ co64 from by omega); clear hr67 hC67 hroom67 hi067 hsz67; have KY67 := Aside0.mk hy67; clear hy67; have KL67 := Aside0.mk (show ((ji59) : Int).toNat ≤ t190.length from by omega); replace q67 := eq_true q67; (try (have q67s := q67; rw [List.length_drop] at q67s)); (try (have q67t := q67; rw [List.length_take] at q67t))) | ((with_reducible refine gate_callee (f := 37) rfl ?_); refine goesL_ (some 81) rfl rfl Try.func37 (by kernel_rfl) rfl #[.slice Ao64 y213.length co64, .int .i64 0] rfl (by (try simp only [List.map_toArray, List.map_cons, List.map_nil]); first | done | rfl | (simp only [List.length_drop, List.length_take]; rfl)) ?_; (with_reducible refine (leb_Get.calls kj6 _ _ y213 0 t217 t218 t219 _ ?side1 ?side2 A62.out).mono ?_); (case side1 => repeat (first | exact (by repeat (first | (with_reducible exact HR216.out) | (with_reducible refine Kd.C_alloc ?_ _) | (with_reducible refine Kd.C_drewN ?_ _) | (with_reducible refine Kd.C_drew ?_) | exact HR216.out)) | (with_reducible refine Kd.C_alloc ?_ _) | (with_reducible refine Kd.C_drewN ?_ _) | (with_reducible refine Kd.C_drew ?_))); (case side2 => exact HC216.out); rintro e w68 ⟨rfl, hb⟩; refine ⟨_, rfl, ?_⟩; have n0_ := Aside0.mk (Kd.R_below (by (with_reducible repeat (first | apply Kd.R_alloc | apply Kd.R_drewN | apply Kd.R_drew)); exact HO_6.out) hb); have n1_ := Aside0.mk (Kd.R_below (by (with_reducible repeat (first | apply Kd.R_alloc | apply Kd.R_drewN | apply Kd.R_drew)); exact HO_7.out) hb); have n2_ := Aside0.mk (Kd.C_below (by repeat (first | (with_reducible exact HR211.out) | (with_reducible refine Kd.C_alloc ?_ _) | (with_reducible refine Kd.C_drewN ?_ _) | (with_reducible refine Kd.C_drew ?_) | exact HR211.out)) hb); have n3_ := Aside0.mk (Kd.C_below (by repeat (first | (with_reducible exact HR216.out) | (with_reducible refine Kd.C_alloc ?_ _) | (with_reducible refine Kd.C_drewN ?_ _) | (with_reducible refine Kd.C_drew ?_) | exact HR216.out)) hb); have n4_ := Aside0.mk (below_step (by repeat (first | (with_reducible first | exact HB.out | apply below_alloc | apply pw_below_drewN | apply below_drew1) | exact HB.out)) hb); clear HO_6; clear HO_7; clear HR211; clear HR216; clear HB; have HO_6 := n0_; have HO_7 := n1_; have HR211 := n2_; have HR216 := n3_; have HB := n4_; clear n0_ n1_ n2_ n3_ n4_; (try clear hb); (try clear hb2); (try clear hk); (try clear hi)))
                        go_ret
                        exact ⟨by first | rfl | (simp [errW_none, errW_some] <;> rfl) | (simp only [← hji59]; first | rfl | (simp [errW_none, errW_some] <;> rfl)) | (simp [*, errW_none, errW_some] <;> rfl), by repeat (first | (with_reducible first | exact HB.out | apply below_alloc | apply pw_below_drewN | apply below_drew1) | exact HB.out)⟩
                      · exact absurd rfl c63
                    · rw [if_neg c61] at H
                      exact absurd H (by simp)
                  · rw [if_neg c60] at H
                    exact absurd H (by simp)
              · rw [if_neg c52] at H
                exact absurd H (by simp)
            · rw [if_neg c51] at H
              have c51b0 : decide ((t190.length : Int) ≤ (t196.length : Int)) = false := decide_eq_false c51
              have c51b1 : decide (t190.length ≤ t196.length) = false := decide_eq_false (fun h => c51 (Int.ofNat_le.mpr h))
              clear c51
              obtain ⟨ji74, hji74⟩ : ∃ j_ : Int, (wrap64 ((t190.length : Int) - 1)) = j_ := ⟨_, rfl⟩
              replace H : (if 0 ≤ (ji74) then (if (ji74) ≤ (t190.length : Int) then ((leb_Get.f kj6 (t190.take ((ji74) : Int).toNat) 0).bind fun bt224 => (if true = true then (some (bt224.2.2 == 5)) else (some false))) else (none)) else (none)) = some r := by first | (rw [hji74] at H; exact H) | (simp only [hji74] at H ⊢; exact H)
              have hji74w : (IntKind.i64.wrap ((t190.length : Int) - 1)) = ji74 := (i64_w _).trans hji74
              by_cases c75 : 0 ≤ (ji74)
              · rw [if_pos c75] at H
                have c75b0 := eq_true c75
                have c75b1 : decide (0 ≤ (ji74)) = true := decide_eq_true c75
                clear c75
                by_cases c76 : (ji74) ≤ (t190.length : Int)
                · rw [if_pos c76] at H
                  have c76b0 := eq_true c76
                  have c76b1 : decide ((ji74) ≤ (t190.length : Int)) = true := decide_eq_true c76
                  clear c76
                  obtain ⟨y220, hy220⟩ : ∃ y_ : List Int, y_ = (t190.take ((ji74) : Int).toNat) := ⟨_, rfl⟩
                  replace H : ((leb_Get.f kj6 y220 0).bind fun bt224 => (if true = true then (some (bt224.2.2 == 5)) else (some false))) = some r := by first | (rw [hy220]; with_reducible exact H) | (have H2_ := (Option.bind_some _ _).symm.trans H; rw [hy220]; with_reducible exact H2_) | (have H2_ := (Option.bind_some _ _).symm.trans H; with_reducible exact H2_) | with_reducible exact H | (rw [hy220]; exact H) | exact H
                  have Ny220 := Aside0.mk hy220
                  clear hy220
                  replace H := Option.bind_eq_some_iff.mp H
                  obtain ⟨⟨t224, t225, t226⟩, A770, H⟩ := H
                  replace H : (if true = true then (some (t226 == 5)) else (some false)) = some r := H
                  have A77 := Aside0.mk A770
                  clear A770
                  by_cases c78 : true = true
                  · clear c78
                    have H1 : (some (t226 == 5)) = some r := by first | (rw [if_pos rfl] at H; exact H) | (rw [if_pos True.intro] at H; exact H)
                    clear H
                    have H := H1
                    clear H1
                    obtain rfl := Option.some.inj H
                    obtain ⟨Ao79, co79, eo79⟩ := Kd.R_slice HO_6.out
                    subst eo79
                    obtain ⟨Ao80, co80, eo80⟩ := Kd.R_slice HO_7.out
                    subst eo80
                    have q81 : ((ji74) : Int) ≤ ((t190.length : Int) : Int) := of_decide_eq_true (by first | (with_reducible assumption) | assumption)
                    obtain ⟨i081, hi081, _, hsz81, _⟩ := info_parts info5
                    have hroom81 : t190.length ≤ co79 := (Kd.R_reads' HO_6.out).2.1
                    have hC81 : Kd.C (Kd.int .u8) _ Ao79 t190.length t190 := (Kd.R_reads' HO_6.out).2.2
                    have hcut81 := cut_to (P := Try.prog) 46 5 .i64 Try.underlying46 hi081 Ao79 t190.length co79 (ji74) (of_decide_eq_true (by first | (with_reducible assumption) | assumption)) q81 hroom81
                    have hr81 := Kd.C_take (m := ((ji74) : Int).toNat) hC81 (by omega)
                    have hy81 : y220.length = ((ji74) : Int).toNat := (by rw [Ny220.out, List.length_take]; omega)
                    rw [← Ny220.out] at hr81
                    rw [← hy81] at hcut81
                    have HR223 := Aside0.mk hr81
                    have HC223 := Aside0.mk (show y220.length ≤ co79 from by omega)
                    clear hr81 hC81 hroom81 hi081 hsz81
                    have KY81 := Aside0.mk hy81
                    clear hy81
                    have KL81 := Aside0.mk (show ((ji74) : Int).toNat ≤ t190.length from by omega)
                    replace q81 := eq_true q81; (try (have q81s := q81; rw [List.length_drop] at q81s)); (try (have q81t := q81; rw [List.length_take] at q81t))
                    go_wp2_with (first | ((with_reducible refine gate_callee (f := 37) rfl ?_); refine goesL_ (some 81) rfl rfl Try.func37 (by kernel_rfl) rfl #[.slice Ao79 y220.length co79, .int .i64 0] rfl (by (try simp only [List.map_toArray, List.map_cons, List.map_nil]); first | done | rfl | (simp only [List.length_drop, List.length_take]; rfl)) ?_; (with_reducible refine (leb_Get.calls kj6 _ _ y220 0 t224 t225 t226 _ ?side1 ?side2 A77.out).mono ?_); (case side1 => repeat (first | exact (by repeat (first | (with_reducible exact HR223.out) | (with_reducible refine Kd.C_alloc ?_ _) | (with_reducible refine Kd.C_drewN ?_ _) | (with_reducible refine Kd.C_drew ?_) | exact HR223.out)) | (with_reducible refine Kd.C_alloc ?_ _) | (with_reducible refine Kd.C_drewN ?_ _) | (with_reducible refine Kd.C_drew ?_))); (case side2 => exact HC223.out); rintro e w82 ⟨rfl, hb⟩; refine ⟨_, rfl, ?_⟩; have n0_ := Aside0.mk (Kd.R_below (by (with_reducible repeat (first | apply Kd.R_alloc | apply Kd.R_drewN | apply Kd.R_drew)); exact HO_6.out) hb); have n1_ := Aside0.mk (Kd.R_below (by (with_reducible repeat (first | apply Kd.R_alloc | apply Kd.R_drewN | apply Kd.R_drew)); exact HO_7.out) hb); have n2_ := Aside0.mk (Kd.C_below (by repeat (first | (with_reducible exact HR223.out) | (with_reducible refine Kd.C_alloc ?_ _) | (with_reducible refine Kd.C_drewN ?_ _) | (with_reducible refine Kd.C_drew ?_) | exact HR223.out)) hb); have n3_ := Aside0.mk (below_step (by repeat (first | (with_reducible first | exact HB.out | apply below_alloc | apply pw_below_drewN | apply below_drew1) | exact HB.out)) hb); clear HO_6; clear HO_7; clear HR223; clear HB; have HO_6 := n0_; have HO_7 := n1_; have HR223 := n2_; have HB := n3_; clear n0_ n1_ n2_ n3_; (try clear hb); (try clear hb2); (try clear hk); (try clear hi)))
                    go_ret
                    exact ⟨by first | rfl | (simp [errW_none, errW_some] <;> rfl) | (simp only [← hji74]; first | rfl | (simp [errW_none, errW_some] <;> rfl)) | (simp [*, errW_none, errW_some] <;> rfl), by repeat (first | (with_reducible first | exact HB.out | apply below_alloc | apply pw_below_drewN | apply below_drew1) | exact HB.out)⟩
                  · exact absurd rfl c78
                · rw [if_neg c76] at H
                  exact absurd H (by simp)
              · rw [if_neg c75] at H
                exact absurd H (by simp)
  · replace c4 := Bool.eq_false_iff.mpr c4
    subst c4
    have H1 : (some false) = some r := by rw [if_neg (show ¬ (false = true) by decide)] at H; exact H
    clear H
    have H := H1
    clear H1
    obtain rfl := Option.some.inj H
    go_enter Try.func11, Try.ntmps11
    go_wp2_with (first | ((with_reducible refine gate_callee (f := 18) rfl ?_); refine goesL_ (some 11) rfl rfl Try.func18 (by kernel_rfl) rfl #[] rfl (by (try simp only [List.map_toArray, List.map_cons, List.map_nil]); first | done | rfl | (simp only [List.length_drop, List.length_take]; rfl)) ?_; (with_reducible refine (thrumlaw03_live.calls k  false _ A3.out).mono ?_); rintro e w87 ⟨rfl, hb⟩; refine ⟨_, rfl, ?_⟩; have n0_ := Aside0.mk (below_step (by repeat (first | (with_reducible first | exact HB.out | apply below_alloc | apply pw_below_drewN | apply below_drew1) | exact HB.out)) hb); clear HB; have HB := n0_; clear n0_; (try clear hb); (try clear hb2); (try clear hk); (try clear hi)))
    go_ret
    exact ⟨by first | rfl | (simp [errW_none, errW_some] <;> rfl) | (simp [*, errW_none, errW_some] <;> rfl), by repeat (first | (with_reducible first | exact HB.out | apply below_alloc | apply pw_below_drewN | apply below_drew1) | exact HB.out)⟩

/-- THE ONE PURE STATEMENT of thrumlaw03_LebApart: yours. -/
def thrumlaw03_LebApart.Pure : Prop := ∀ (a0 : Int) (a1 : Int), (Lit.int .u64 a0).wf = true → (Lit.int .u64 a1).wf = true → ∃ k, thrumlaw03_LebApart.f k a0 a1 = some true
theorem thrumlaw03_LebApart.walk (P : thrumlaw03_LebApart.Pure) (a0 : Int) (a1 : Int) (w : World) (w0 : (Lit.int .u64 a0).wf = true) (w1 : (Lit.int .u64 a1).wf = true) :
    Calls Try.prog 11 #[.int .u64 a0, .int .u64 a1] w fun e w' => e = .returned (.bool true) ∧ Below w.heap.size w w' := by
  obtain ⟨k, h⟩ := P a0 a1 w0 w1
  refine (thrumlaw03_LebApart.calls k a0 a1 true w h).mono ?_
  rintro e w' ⟨rfl, hd⟩
  exact ⟨rfl, hd⟩

end Go.Proofs.Ytejhbmdjdbbnpaa.MLeb
