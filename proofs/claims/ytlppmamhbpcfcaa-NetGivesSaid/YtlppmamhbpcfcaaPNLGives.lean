/- Functions that the laws use, each as a plain Lean function, with the proof that the Go code comes to just that; no conditions beyond those typed. -/
import Derived.Test.YtlppmamhbpcfcaaNetDel
import Derived.Test.YtlppmamhbpcfcaaPNA
import Derived.Test.YtlppmamhbpcfcaaPNB
namespace Go.Proofs.Ytlppmamhbpcfcaa.MNet
open Go.RowKit Go.Proofs.YtlppmamhbpcfcaaW.PrintWords Go.Proofs.YtlppmamhbpcfcaaW.PrintLast Go.Proofs.YtlppmamhbpcfcaaW.PrintMore
attribute [local go_sem] max2_int min2_int max_two min_two max_three min_three max_four min_four   -- for this text's walks alone
set_option linter.unusedVariables false
set_option linter.unusedSimpArgs false

/-! ### thrumlaw21_NetGives: function 4 -/
mutual
def thrumlaw21_NetGives.j0 : Nat → List (S40) → List Int → Bool → Bool → Option (Bool)
  | 0, _, _, _, _ => none
  | k + 1, x0, x1, x5, x25 => if x25 = true then (some x5) else ((net_Send.f k ([] : List (S40)) x0).bind fun bt198 => (if bt198.2 = 0 then ((thrumref21_Same.f k bt198.1 x0).bind fun t202 => (thrumlaw21_NetGives.j1 k x0 x1 x5 bt198.1 (!t202))) else (thrumlaw21_NetGives.j1 k x0 x1 x5 bt198.1 true)))
def thrumlaw21_NetGives.j1 : Nat → List (S40) → List Int → Bool → List (S40) → Bool → Option (Bool)
  | 0, _, _, _, _, _ => none
  | k + 1, x0, x1, x5, x6, x39 => if x39 = true then (some false) else (if 0 ≤ (x0.length : Int) then (if ((x0.length : Int) : Int).toNat ≤ 35184372088832 then ((some (List.replicate ((x0.length : Int) : Int).toNat 0 : List Int)).bind fun y203 => (thrumlaw21_NetGives.l0 k x0 x1 x5 x6 y203 (y203.length : Int) 0)) else (none)) else (none))
def thrumlaw21_NetGives.l0 : Nat → List (S40) → List Int → Bool → List (S40) → List Int → Int → Int → Option (Bool)
  | 0, _, _, _, _, _, _, _ => none
  | k + 1, x0, x1, x5, x6, x8, x44, x45 => if x45 < x44 then (if 0 ≤ x45 then (if x45 < (x8.length : Int) then (thrumlaw21_NetGives.l0 k x0 x1 x5 x6 (x8.set (x45 : Int).toNat x45) x44 (wrap64 (x45 + 1))) else (none)) else (none)) else (thrumlaw21_NetGives.l1 k x0 x1 x5 x6 x8 (x0.length : Int) 0)
def thrumlaw21_NetGives.l1 : Nat → List (S40) → List Int → Bool → List (S40) → List Int → Int → Int → Option (Bool)
  | 0, _, _, _, _, _, _, _ => none
  | k + 1, x0, x1, x5, x6, x8, x54, x55 => if x55 < x54 then (if x55 < (x1.length : Int) then (if 0 ≤ x55 then (if (x8.length : Int) = 0 then (none) else (thrumlaw21_NetGives.j4 k x0 x1 x5 x6 x8 (Int.tmod (wrap64 ((Int.tmod (rd x1 x55) (x8.length : Int)) + (x8.length : Int))) (x8.length : Int)) x54 x55)) else (none)) else (thrumlaw21_NetGives.j4 k x0 x1 x5 x6 x8 0 x54 x55)) else (if x5 = true then (some ((x6.length : Int) == 0)) else (some false))
def thrumlaw21_NetGives.j4 : Nat → List (S40) → List Int → Bool → List (S40) → List Int → Int → Int → Int → Option (Bool)
  | 0, _, _, _, _, _, _, _, _ => none
  | k + 1, x0, x1, x5, x6, x8, x11, x54, x55 => (net_Give.f k x6 x11).bind fun bt208 => (if bt208.2.2.2 = 0 then (if 0 ≤ x11 then (if x11 < (x8.length : Int) then (if 0 ≤ (rd x8 x11) then (if (rd x8 x11) < (x0.length : Int) then ((thrumref21_One.f bt208.1 bt208.2.1 ((rd_T40 x0 (rd x8 x11)).f0) ((rd_T40 x0 (rd x8 x11)).f1)).bind fun t219 => (if t219 = true then (if (bt208.2.2.1.length : Int) = (wrap64 ((x8.length : Int) - 1)) then (if x11 ≤ (x8.length : Int) then ((some (x8.take (x11 : Int).toNat : List Int)).bind fun y220 => (if ([] : List Int).length + y220.length < 17592186044416 then ((some (([] : List Int) ++ y220 : List Int)).bind fun y225 => (if 0 ≤ (wrap64 (x11 + 1)) then (if (wrap64 (x11 + 1)) ≤ (x8.length : Int) then ((some (x8.drop ((wrap64 (x11 + 1)) : Int).toNat : List Int)).bind fun y228 => (if y225.length + y228.length < 17592186044416 then (thrumlaw21_NetGives.l1 k x0 x1 x5 bt208.2.2.1 (y225 ++ y228) x54 (wrap64 (x55 + 1))) else (none))) else (none)) else (none))) else (none))) else (none)) else (some false)) else (some false))) else (none)) else (none)) else (none)) else (none)) else (some false))
end
def thrumlaw21_NetGives.f (k : Nat) (l0 : List (S40)) (l1 : List Int) : Option (Bool) := (thrumlaw21_live.f k).bind fun t196 => (if t196 = true then ((thrumref21_Few.f k l0).bind fun t197 => (if t197 = true then (thrumlaw21_NetGives.j0 k l0 l1 t196 (decide ((l0.length : Int) > 512))) else (thrumlaw21_NetGives.j0 k l0 l1 t196 true))) else (some false))
theorem thrumlaw21_NetGives.mono_l : ∀ k, (∀ y0 y1 y2 y3, LeO (thrumlaw21_NetGives.j0 k y0 y1 y2 y3) (thrumlaw21_NetGives.j0 (k + 1) y0 y1 y2 y3)) ∧ (∀ y0 y1 y2 y3 y4, LeO (thrumlaw21_NetGives.j1 k y0 y1 y2 y3 y4) (thrumlaw21_NetGives.j1 (k + 1) y0 y1 y2 y3 y4)) ∧ (∀ y0 y1 y2 y3 y4 y5 y6, LeO (thrumlaw21_NetGives.l0 k y0 y1 y2 y3 y4 y5 y6) (thrumlaw21_NetGives.l0 (k + 1) y0 y1 y2 y3 y4 y5 y6)) ∧ (∀ y0 y1 y2 y3 y4 y5 y6, LeO (thrumlaw21_NetGives.l1 k y0 y1 y2 y3 y4 y5 y6) (thrumlaw21_NetGives.l1 (k + 1) y0 y1 y2 y3 y4 y5 y6)) ∧ (∀ y0 y1 y2 y3 y4 y5 y6 y7, LeO (thrumlaw21_NetGives.j4 k y0 y1 y2 y3 y4 y5 y6 y7) (thrumlaw21_NetGives.j4 (k + 1) y0 y1 y2 y3 y4 y5 y6 y7))
  | 0 => ⟨fun _ _ _ _ r h => by simp [thrumlaw21_NetGives.j0] at h, fun _ _ _ _ _ r h => by simp [thrumlaw21_NetGives.j1] at h, fun _ _ _ _ _ _ _ r h => by simp [thrumlaw21_NetGives.l0] at h, fun _ _ _ _ _ _ _ r h => by simp [thrumlaw21_NetGives.l1] at h, fun _ _ _ _ _ _ _ _ r h => by simp [thrumlaw21_NetGives.j4] at h⟩
  | k + 1 => by
    obtain ⟨ih0, ih1, ih2, ih3, ih4⟩ := thrumlaw21_NetGives.mono_l k
    refine ⟨?_, ?_, ?_, ?_, ?_⟩
    · intro y0 y1 y2 y3
      unfold thrumlaw21_NetGives.j0
      repeat' first
      | (with_reducible exact ih0 _ _ _ _)
      | (with_reducible exact ih1 _ _ _ _ _)
      | (with_reducible exact ih2 _ _ _ _ _ _ _)
      | (with_reducible exact ih3 _ _ _ _ _ _ _)
      | (with_reducible exact ih4 _ _ _ _ _ _ _ _)
      | (with_reducible exact net_Give.mono _ _ _)
      | (with_reducible exact net_Send.mono _ _ _)
      | (with_reducible exact thrumlaw21_live.mono _)
      | (with_reducible exact thrumref21_Few.mono _ _)
      | (with_reducible exact thrumref21_Same.mono _ _ _)
      | (with_reducible exact LeO.refl _)
      | (with_reducible exact LeO.none _)
      | (with_reducible refine LeO.ite ?_ ?_)
      | (with_reducible refine LeO.bind ?_ (fun _ => ?_))
      | exact ih0 _ _ _ _
      | exact ih1 _ _ _ _ _
      | exact ih2 _ _ _ _ _ _ _
      | exact ih3 _ _ _ _ _ _ _
      | exact ih4 _ _ _ _ _ _ _ _
      | exact net_Give.mono _ _ _
      | exact net_Send.mono _ _ _
      | exact thrumlaw21_live.mono _
      | exact thrumref21_Few.mono _ _
      | exact thrumref21_Same.mono _ _ _
      | exact LeO.none _
      | refine LeO.ite ?_ ?_
      | refine LeO.bind ?_ (fun _ => ?_)
    · intro y0 y1 y2 y3 y4
      unfold thrumlaw21_NetGives.j1
      repeat' first
      | (with_reducible exact ih0 _ _ _ _)
      | (with_reducible exact ih1 _ _ _ _ _)
      | (with_reducible exact ih2 _ _ _ _ _ _ _)
      | (with_reducible exact ih3 _ _ _ _ _ _ _)
      | (with_reducible exact ih4 _ _ _ _ _ _ _ _)
      | (with_reducible exact net_Give.mono _ _ _)
      | (with_reducible exact net_Send.mono _ _ _)
      | (with_reducible exact thrumlaw21_live.mono _)
      | (with_reducible exact thrumref21_Few.mono _ _)
      | (with_reducible exact thrumref21_Same.mono _ _ _)
      | (with_reducible exact LeO.refl _)
      | (with_reducible exact LeO.none _)
      | (with_reducible refine LeO.ite ?_ ?_)
      | (with_reducible refine LeO.bind ?_ (fun _ => ?_))
      | exact ih0 _ _ _ _
      | exact ih1 _ _ _ _ _
      | exact ih2 _ _ _ _ _ _ _
      | exact ih3 _ _ _ _ _ _ _
      | exact ih4 _ _ _ _ _ _ _ _
      | exact net_Give.mono _ _ _
      | exact net_Send.mono _ _ _
      | exact thrumlaw21_live.mono _
      | exact thrumref21_Few.mono _ _
      | exact thrumref21_Same.mono _ _ _
      | exact LeO.none _
      | refine LeO.ite ?_ ?_
      | refine LeO.bind ?_ (fun _ => ?_)
    · intro y0 y1 y2 y3 y4 y5 y6
      unfold thrumlaw21_NetGives.l0
      repeat' first
      | (with_reducible exact ih0 _ _ _ _)
      | (with_reducible exact ih1 _ _ _ _ _)
      | (with_reducible exact ih2 _ _ _ _ _ _ _)
      | (with_reducible exact ih3 _ _ _ _ _ _ _)
      | (with_reducible exact ih4 _ _ _ _ _ _ _ _)
      | (with_reducible exact net_Give.mono _ _ _)
      | (with_reducible exact net_Send.mono _ _ _)
      | (with_reducible exact thrumlaw21_live.mono _)
      | (with_reducible exact thrumref21_Few.mono _ _)
      | (with_reducible exact thrumref21_Same.mono _ _ _)
      | (with_reducible exact LeO.refl _)
      | (with_reducible exact LeO.none _)
      | (with_reducible refine LeO.ite ?_ ?_)
      | (with_reducible refine LeO.bind ?_ (fun _ => ?_))
      | exact ih0 _ _ _ _
      | exact ih1 _ _ _ _ _
      | exact ih2 _ _ _ _ _ _ _
      | exact ih3 _ _ _ _ _ _ _
      | exact ih4 _ _ _ _ _ _ _ _
      | exact net_Give.mono _ _ _
      | exact net_Send.mono _ _ _
      | exact thrumlaw21_live.mono _
      | exact thrumref21_Few.mono _ _
      | exact thrumref21_Same.mono _ _ _
      | exact LeO.none _
      | refine LeO.ite ?_ ?_
      | refine LeO.bind ?_ (fun _ => ?_)
    · intro y0 y1 y2 y3 y4 y5 y6
      unfold thrumlaw21_NetGives.l1
      repeat' first
      | (with_reducible exact ih0 _ _ _ _)
      | (with_reducible exact ih1 _ _ _ _ _)
      | (with_reducible exact ih2 _ _ _ _ _ _ _)
      | (with_reducible exact ih3 _ _ _ _ _ _ _)
      | (with_reducible exact ih4 _ _ _ _ _ _ _ _)
      | (with_reducible exact net_Give.mono _ _ _)
      | (with_reducible exact net_Send.mono _ _ _)
      | (with_reducible exact thrumlaw21_live.mono _)
      | (with_reducible exact thrumref21_Few.mono _ _)
      | (with_reducible exact thrumref21_Same.mono _ _ _)
      | (with_reducible exact LeO.refl _)
      | (with_reducible exact LeO.none _)
      | (with_reducible refine LeO.ite ?_ ?_)
      | (with_reducible refine LeO.bind ?_ (fun _ => ?_))
      | exact ih0 _ _ _ _
      | exact ih1 _ _ _ _ _
      | exact ih2 _ _ _ _ _ _ _
      | exact ih3 _ _ _ _ _ _ _
      | exact ih4 _ _ _ _ _ _ _ _
      | exact net_Give.mono _ _ _
      | exact net_Send.mono _ _ _
      | exact thrumlaw21_live.mono _
      | exact thrumref21_Few.mono _ _
      | exact thrumref21_Same.mono _ _ _
      | exact LeO.none _
      | refine LeO.ite ?_ ?_
      | refine LeO.bind ?_ (fun _ => ?_)
    · intro y0 y1 y2 y3 y4 y5 y6 y7
      unfold thrumlaw21_NetGives.j4
      repeat' first
      | (with_reducible exact ih0 _ _ _ _)
      | (with_reducible exact ih1 _ _ _ _ _)
      | (with_reducible exact ih2 _ _ _ _ _ _ _)
      | (with_reducible exact ih3 _ _ _ _ _ _ _)
      | (with_reducible exact ih4 _ _ _ _ _ _ _ _)
      | (with_reducible exact net_Give.mono _ _ _)
      | (with_reducible exact net_Send.mono _ _ _)
      | (with_reducible exact thrumlaw21_live.mono _)
      | (with_reducible exact thrumref21_Few.mono _ _)
      | (with_reducible exact thrumref21_Same.mono _ _ _)
      | (with_reducible exact LeO.refl _)
      | (with_reducible exact LeO.none _)
      | (with_reducible refine LeO.ite ?_ ?_)
      | (with_reducible refine LeO.bind ?_ (fun _ => ?_))
      | exact ih0 _ _ _ _
      | exact ih1 _ _ _ _ _
      | exact ih2 _ _ _ _ _ _ _
      | exact ih3 _ _ _ _ _ _ _
      | exact ih4 _ _ _ _ _ _ _ _
      | exact net_Give.mono _ _ _
      | exact net_Send.mono _ _ _
      | exact thrumlaw21_live.mono _
      | exact thrumref21_Few.mono _ _
      | exact thrumref21_Same.mono _ _ _
      | exact LeO.none _
      | refine LeO.ite ?_ ?_
      | refine LeO.bind ?_ (fun _ => ?_)
theorem thrumlaw21_NetGives.mono : ∀ a0 a1 k, LeO (thrumlaw21_NetGives.f k a0 a1) (thrumlaw21_NetGives.f (k + 1) a0 a1) := by
  intro a0 a1 k
  obtain ⟨ih0, ih1, ih2, ih3, ih4⟩ := thrumlaw21_NetGives.mono_l k
  unfold thrumlaw21_NetGives.f
  repeat' first
      | (with_reducible exact ih0 _ _ _ _)
      | (with_reducible exact ih1 _ _ _ _ _)
      | (with_reducible exact ih2 _ _ _ _ _ _ _)
      | (with_reducible exact ih3 _ _ _ _ _ _ _)
      | (with_reducible exact ih4 _ _ _ _ _ _ _ _)
      | (with_reducible exact net_Give.mono _ _ _)
      | (with_reducible exact net_Send.mono _ _ _)
      | (with_reducible exact thrumlaw21_live.mono _)
      | (with_reducible exact thrumref21_Few.mono _ _)
      | (with_reducible exact thrumref21_Same.mono _ _ _)
      | (with_reducible exact LeO.refl _)
      | (with_reducible exact LeO.none _)
      | (with_reducible refine LeO.ite ?_ ?_)
      | (with_reducible refine LeO.bind ?_ (fun _ => ?_))
      | exact ih0 _ _ _ _
      | exact ih1 _ _ _ _ _
      | exact ih2 _ _ _ _ _ _ _
      | exact ih3 _ _ _ _ _ _ _
      | exact ih4 _ _ _ _ _ _ _ _
      | exact net_Give.mono _ _ _
      | exact net_Send.mono _ _ _
      | exact thrumlaw21_live.mono _
      | exact thrumref21_Few.mono _ _
      | exact thrumref21_Same.mono _ _ _
      | exact LeO.none _
      | refine LeO.ite ?_ ?_
      | refine LeO.bind ?_ (fun _ => ?_)
def thrumlaw21_NetGives.T22 : Bool × List (List Nat × List Nat) := (true, [([], []), ([0], [0]), ([1], [1]), ([2], [2]), ([2], [2]), ([2], [2]), ([2], [2]), ([5, 6, 2], [2, 5, 6]), ([7, 2], [2, 7]), ([4, 8, 2], [2, 4, 8]), ([9, 2], [2, 9]), ([3, 10, 2, 2], [2, 3, 10]), ([11, 2], [2, 11]), ([2, 12], [2, 12]), ([13, 11], [13]), ([14], [14]), ([15, 14], [14, 15]), ([14], [14]), ([17, 14], [14, 17]), ([18, 14], [14, 18]), ([16, 19, 14], [14, 16, 19]), ([14, 20], [14, 20])])
def thrumlaw21_NetGives.B22 : List Nat := [0, 1, 3, 7, 7, 7, 7, 103, 231, 503, 1015, 2047, 4095, 8191, 16383, 32767, 65535, 32767, 163839, 425983, 1048575, 2097151]
theorem thrumlaw21_NetGives.tab22 : rtab .any (opsOf Try.f4 22) = thrumlaw21_NetGives.T22 := by kernel_rfl
theorem thrumlaw21_NetGives.bits22 : waitsOk thrumlaw21_NetGives.T22.2 thrumlaw21_NetGives.B22 = true := by kernel_rfl
def thrumlaw21_NetGives.T25 : Bool × List (List Nat × List Nat) := (true, [([], []), ([], []), ([0, 1], [0, 1]), ([2], [2]), ([], []), ([], []), ([5], [5]), ([4, 6], [4, 6]), ([3, 7, 3], [3, 7]), ([8, 8, 0, 1, 2, 3, 4, 5, 6, 7, 8], [0, 4, 8])])
def thrumlaw21_NetGives.B25 : List Nat := [0, 0, 3, 7, 0, 0, 32, 112, 255, 511]
theorem thrumlaw21_NetGives.tab25 : rtab .any (opsOf Try.f4 25) = thrumlaw21_NetGives.T25 := by kernel_rfl
theorem thrumlaw21_NetGives.bits25 : waitsOk thrumlaw21_NetGives.T25.2 thrumlaw21_NetGives.B25 = true := by kernel_rfl
set_option maxHeartbeats 8000000 in
set_option maxRecDepth 100000 in
theorem thrumlaw21_NetGives.calls (k : Nat) (A0 : Option Addr) (c0 : Nat) (l0 : List (S40)) (A1 : Option Addr) (c1 : Nat) (l1 : List Int) (r : Bool) (w : World) (hr0 : Kd.C k40 w A0 l0.length l0) (hc0 : l0.length ≤ c0) (hr1 : Kd.C (Kd.int .i64) w A1 l1.length l1) (hc1 : l1.length ≤ c1) (h : thrumlaw21_NetGives.f k l0 l1 = some r) :
    Calls Try.prog 4 #[.slice A0 l0.length c0, .slice A1 l1.length c1] w fun e w' => e = .returned (.bool r) ∧ Below w.heap.size w w' := by
  have hu40 := Try.underlying40
  have HR0 := Aside0.mk hr0
  have HC0 := Aside0.mk hc0
  clear hr0 hc0
  have HR1 := Aside0.mk hr1
  have HC1 := Aside0.mk hc1
  clear hr1 hc1
  have HB := Aside0.mk (Below.refl w.heap.size w)
  have H : ((thrumlaw21_live.f k).bind fun t196 => (if t196 = true then ((thrumref21_Few.f k l0).bind fun t197 => (if t197 = true then (thrumlaw21_NetGives.j0 k l0 l1 t196 (decide ((l0.length : Int) > 512))) else (thrumlaw21_NetGives.j0 k l0 l1 t196 true))) else (some false))) = some r := h
  clear h
  replace H := Option.bind_eq_some_iff.mp H
  obtain ⟨t196, A30, H⟩ := H
  replace H : (if t196 = true then ((thrumref21_Few.f k l0).bind fun t197 => (if t197 = true then (thrumlaw21_NetGives.j0 k l0 l1 t196 (decide ((l0.length : Int) > 512))) else (thrumlaw21_NetGives.j0 k l0 l1 t196 true))) else (some false)) = some r := H
  have A3 := Aside0.mk A30
  clear A30
  by_cases c4 : t196 = true
  · subst c4
    have H1 : ((thrumref21_Few.f k l0).bind fun t197 => (if t197 = true then (thrumlaw21_NetGives.j0 k l0 l1 true (decide ((l0.length : Int) > 512))) else (thrumlaw21_NetGives.j0 k l0 l1 true true))) = some r := by first | (rw [if_pos rfl] at H; exact H) | (rw [if_pos True.intro] at H; exact H)
    clear H
    have H := H1
    clear H1
    have HC5 := Aside0.mk H
    clear H
    go_enter Try.func4, Try.ntmps4
    go_upto_region 4 with (first | ((with_reducible refine gate_callee (f := 20) rfl ?_); refine goesL_ (some 15) rfl rfl Try.func20 (by kernel_rfl) rfl #[] rfl (by (try simp only [List.map_toArray, List.map_cons, List.map_nil]); first | done | rfl | (simp only [List.length_drop, List.length_take]; rfl)) ?_; (with_reducible refine (thrumlaw21_live.calls k  true _ A3.out).mono ?_); rintro e w6 ⟨rfl, hb⟩; refine ⟨_, rfl, ?_⟩; have n0_ := Aside0.mk (below_step (by repeat (first | (with_reducible first | exact HB.out | apply below_alloc | apply pw_below_drewN | apply below_drew1) | exact HB.out)) hb); clear HB; have HB := n0_; clear n0_; (try clear hb); (try clear hb2); (try clear hk); (try clear hi)))
    (try simp only [Act.put, List.setIfInBounds_toArray, List.set_cons_zero, List.set_cons_succ])
    go_cut [25] (fun v25 wc => ∃ (kq : Nat) (x25_4 : Bool), v25 = .bool x25_4 ∧ Aside0 (thrumlaw21_NetGives.j0 kq l0 l1 true x25_4 = some r) ∧ Aside0 (kq ≤ k) ∧ Aside0 (Below w.heap.size w wc))
    case first =>
      have H := HC5.out
      clear HC5
      replace H := Option.bind_eq_some_iff.mp H
      obtain ⟨t197, A70, H⟩ := H
      replace H : (if t197 = true then (thrumlaw21_NetGives.j0 k l0 l1 true (decide ((l0.length : Int) > 512))) else (thrumlaw21_NetGives.j0 k l0 l1 true true)) = some r := H
      have A7 := Aside0.mk A70
      clear A70
      by_cases c8 : t197 = true
      · subst c8
        have H1 : (thrumlaw21_NetGives.j0 k l0 l1 true (decide ((l0.length : Int) > 512))) = some r := by first | (rw [if_pos rfl] at H; exact H) | (rw [if_pos True.intro] at H; exact H)
        clear H
        have H := H1
        clear H1
        have H' := Aside0.mk H
        clear H
        go_wp2_with (first | ((with_reducible refine gate_callee (f := 21) rfl ?_); refine goesL_ (some 19) rfl rfl Try.func21 (by kernel_rfl) rfl #[.slice A0 l0.length c0] rfl (by (try simp only [List.map_toArray, List.map_cons, List.map_nil]); first | done | rfl | (simp only [List.length_drop, List.length_take]; rfl)) ?_; (with_reducible refine (thrumref21_Few.calls k _ _ l0 true _ ?side1 ?side2 A7.out).mono ?_); (case side1 => repeat (first | exact (Kd.C_below HR0.out HB.out) | (with_reducible refine Kd.C_alloc ?_ _) | (with_reducible refine Kd.C_drewN ?_ _) | (with_reducible refine Kd.C_drew ?_))); (case side2 => exact HC0.out); rintro e w9 ⟨rfl, hb⟩; refine ⟨_, rfl, ?_⟩; have n0_ := Aside0.mk (below_step (by repeat (first | (with_reducible first | exact HB.out | apply below_alloc | apply pw_below_drewN | apply below_drew1) | exact HB.out)) hb); clear HB; have HB := n0_; clear n0_; (try clear hb); (try clear hb2); (try clear hk); (try clear hi)))
        go_meet
        case rel => exact ⟨_, (decide ((l0.length : Int) > 512)), (by first | rfl | (simp; done) | (simp [*]; done)), H', ⟨by first | omega | exact Nat.le_refl _⟩, ⟨by repeat (first | (with_reducible first | exact HB.out | apply below_alloc | apply pw_below_drewN | apply below_drew1) | exact HB.out)⟩⟩
      · replace c8 := Bool.eq_false_iff.mpr c8
        subst c8
        have H1 : (thrumlaw21_NetGives.j0 k l0 l1 true true) = some r := by rw [if_neg (show ¬ (false = true) by decide)] at H; exact H
        clear H
        have H := H1
        clear H1
        have H' := Aside0.mk H
        clear H
        go_wp2_with (first | ((with_reducible refine gate_callee (f := 21) rfl ?_); refine goesL_ (some 19) rfl rfl Try.func21 (by kernel_rfl) rfl #[.slice A0 l0.length c0] rfl (by (try simp only [List.map_toArray, List.map_cons, List.map_nil]); first | done | rfl | (simp only [List.length_drop, List.length_take]; rfl)) ?_; (with_reducible refine (thrumref21_Few.calls k _ _ l0 false _ ?side1 ?side2 A7.out).mono ?_); (case side1 => repeat (first | exact (Kd.C_below HR0.out HB.out) | (with_reducible refine Kd.C_alloc ?_ _) | (with_reducible refine Kd.C_drewN ?_ _) | (with_reducible refine Kd.C_drew ?_))); (case side2 => exact HC0.out); rintro e w10 ⟨rfl, hb⟩; refine ⟨_, rfl, ?_⟩; have n0_ := Aside0.mk (below_step (by repeat (first | (with_reducible first | exact HB.out | apply below_alloc | apply pw_below_drewN | apply below_drew1) | exact HB.out)) hb); clear HB; have HB := n0_; clear n0_; (try clear hb); (try clear hb2); (try clear hk); (try clear hi)))
        go_meet
        case rel => exact ⟨_, (true), (by first | rfl | (simp; done) | (simp [*]; done)), H', ⟨by first | omega | exact Nat.le_refl _⟩, ⟨by repeat (first | (with_reducible first | exact HB.out | apply below_alloc | apply pw_below_drewN | apply below_drew1) | exact HB.out)⟩⟩
    case rest =>
      clear HC5
      try clear c1
      try clear c2
      try clear p2
      try clear c4
      try clear c8
      obtain ⟨kq, x25_4, rfl, HA, HJ4, HB⟩ := hcut
      cases kq with
      | zero => exact absurd HA.out (by simp [thrumlaw21_NetGives.j0])
      | succ kj4 =>
        have H := HA.out
        clear HA
        simp only [thrumlaw21_NetGives.j0] at H
        by_cases c11 : x25_4 = true
        · subst c11
          have H1 : (some true) = some r := by first | (rw [if_pos rfl] at H; exact H) | (rw [if_pos True.intro] at H; exact H)
          clear H
          have H := H1
          clear H1
          obtain rfl := Option.some.inj H
          go_wp2
          go_ret
          exact ⟨by first | rfl | (simp [errW_none, errW_some] <;> rfl) | (simp [*, errW_none, errW_some] <;> rfl), by repeat (first | (with_reducible first | exact HB.out | apply below_alloc | apply pw_below_drewN | apply below_drew1) | exact HB.out)⟩
        · replace c11 := Bool.eq_false_iff.mpr c11
          subst c11
          have H1 : ((net_Send.f kj4 ([] : List (S40)) l0).bind fun bt198 => (if bt198.2 = 0 then ((thrumref21_Same.f kj4 bt198.1 l0).bind fun t202 => (thrumlaw21_NetGives.j1 kj4 l0 l1 true bt198.1 (!t202))) else (thrumlaw21_NetGives.j1 kj4 l0 l1 true bt198.1 true))) = some r := by rw [if_neg (show ¬ (false = true) by decide)] at H; exact H
          clear H
          have H := H1
          clear H1
          replace H := Option.bind_eq_some_iff.mp H
          obtain ⟨⟨t198, t201⟩, A120, H⟩ := H
          replace H : (if t201 = 0 then ((thrumref21_Same.f kj4 t198 l0).bind fun t202 => (thrumlaw21_NetGives.j1 kj4 l0 l1 true t198 (!t202))) else (thrumlaw21_NetGives.j1 kj4 l0 l1 true t198 true)) = some r := H
          have A12 := Aside0.mk A120
          clear A120
          have HC13 := Aside0.mk H
          clear H
          go_upto_region 7 with (first | ((with_reducible refine gate_callee (f := 22) rfl ?_); refine goesL_ (some 29) rfl rfl Try.func22 (by kernel_rfl) rfl #[.slice none 0 0, .slice A0 l0.length c0] rfl (by (try simp only [List.map_toArray, List.map_cons, List.map_nil]); first | done | rfl | (simp only [List.length_drop, List.length_take]; rfl)) ?_; (refine (net_Send.calls kj4 _ _ ([] : List (S40)) _ _ l0 t198 t201 _ ?side1 ?side2 ?side3 ?side4 A12.out).mono ?_); (case side1 => exact Kd.C_nil _ _); (case side2 => exact Nat.le_refl _); (case side3 => repeat (first | exact (Kd.C_below HR0.out HB.out) | (with_reducible refine Kd.C_alloc ?_ _) | (with_reducible refine Kd.C_drewN ?_ _) | (with_reducible refine Kd.C_drew ?_))); (case side4 => exact HC0.out); rintro e w14 ⟨v199, rfl, ho0, hb⟩; refine ⟨_, rfl, ?_⟩; have n0_ := Aside0.mk (Kd.N_lower (Kd.N_mono (ok' := fun k_ => True) ho0 (fun k_ hk_ => trivial)) (below_size (by repeat (first | (with_reducible first | exact HB.out | apply below_alloc | apply pw_below_drewN | apply below_drew1) | exact HB.out)))); have n1_ := Aside0.mk (below_step (by repeat (first | (with_reducible first | exact HB.out | apply below_alloc | apply pw_below_drewN | apply below_drew1) | exact HB.out)) hb); clear HB; have HO200 := n0_; have HB := n1_; clear n0_ n1_; (try clear hb); (try clear hb2); (try clear hk); (try clear hi); (try clear ho0)))
          (try simp only [Act.put, List.setIfInBounds_toArray, List.set_cons_zero, List.set_cons_succ])
          go_cut [39] (fun v39 wc => ∃ (kq : Nat) (x39_12 : Bool), v39 = .bool x39_12 ∧ Aside0 (thrumlaw21_NetGives.j1 kq l0 l1 true t198 x39_12 = some r) ∧ Aside0 (kq ≤ kj4) ∧ Aside0 (Kd.N k40 40 wc w.heap.size (fun _ => True) v199 t198) ∧ Aside0 (Below w.heap.size w wc))
          case first =>
            have H := HC13.out
            clear HC13
            by_cases c15 : t201 = 0
            · rw [if_pos c15] at H
              have c15b0 : (t201 == 0) = true := beq_iff_eq.mpr c15
              have c15b1 : (t201 != 0) = false := bne_eq_false_iff_eq.mpr c15
              clear c15
              (first | rw [c15b0] | (simp only [i64_w, i32_w]; rw [c15b0]) | skip)
              replace H := Option.bind_eq_some_iff.mp H
              obtain ⟨t202, A160, H⟩ := H
              replace H : (thrumlaw21_NetGives.j1 kj4 l0 l1 true t198 (!t202)) = some r := H
              have A16 := Aside0.mk A160
              clear A160
              have H' := Aside0.mk H
              clear H
              obtain ⟨Ao17, co17, eo17⟩ := Kd.N_slice HO200.out
              subst eo17
              go_wp2_with (first | (go_at_call 23; (with_reducible refine (thrumref21_Same.calls kj4 _ _ t198 _ _ l0 t202 _ ?side1 ?side2 ?side3 ?side4 A16.out).mono ?_); (case side1 => repeat (first | exact (Kd.N_reads' HO200.out).2.2 | (with_reducible refine Kd.C_alloc ?_ _) | (with_reducible refine Kd.C_drewN ?_ _) | (with_reducible refine Kd.C_drew ?_))); (case side2 => exact (Kd.N_reads' HO200.out).2.1); (case side3 => repeat (first | exact (Kd.C_below HR0.out HB.out) | (with_reducible refine Kd.C_alloc ?_ _) | (with_reducible refine Kd.C_drewN ?_ _) | (with_reducible refine Kd.C_drew ?_))); (case side4 => exact HC0.out); rintro e w18 ⟨rfl, hb⟩; have n0_ := Aside0.mk (Kd.N_below (by (with_reducible repeat (first | apply Kd.N_alloc | apply Kd.N_drewN | apply Kd.N_drew)); exact HO200.out) hb); have n1_ := Aside0.mk (below_step (by repeat (first | (with_reducible first | exact HB.out | apply below_alloc | apply pw_below_drewN | apply below_drew1) | exact HB.out)) hb); clear HO200; clear HB; have HO200 := n0_; have HB := n1_; clear n0_ n1_; (try clear hb); (try clear hb2); (try clear hk); (try clear hi)))
              go_meet
              case rel => exact ⟨_, (!t202), (by first | rfl | (simp; done) | (simp [*]; done)), H', ⟨by have := HJ4.out; first | omega | exact Nat.le_refl _⟩, ⟨by (with_reducible repeat (first | apply Kd.N_alloc | apply Kd.N_drewN | apply Kd.N_drew)); exact HO200.out⟩, ⟨by repeat (first | (with_reducible first | exact HB.out | apply below_alloc | apply pw_below_drewN | apply below_drew1) | exact HB.out)⟩⟩
            · rw [if_neg c15] at H
              have c15b0 : (t201 == 0) = false := beq_eq_false_iff_ne.mpr c15
              have c15b1 : (t201 != 0) = true := bne_iff_ne.mpr c15
              (first | rw [c15b0] | (simp only [i64_w, i32_w]; rw [c15b0]) | skip)
              have H' := Aside0.mk H
              clear H
              go_wp2
              go_meet
              case rel => exact ⟨_, (true), (by first | rfl | (simp; done) | (simp [*]; done)), H', ⟨by have := HJ4.out; first | omega | exact Nat.le_refl _⟩, ⟨by (with_reducible repeat (first | apply Kd.N_alloc | apply Kd.N_drewN | apply Kd.N_drew)); exact HO200.out⟩, ⟨by repeat (first | (with_reducible first | exact HB.out | apply below_alloc | apply pw_below_drewN | apply below_drew1) | exact HB.out)⟩⟩
          case rest =>
            clear HC13
            try clear c1
            try clear c2
            try clear p2
            try clear c4
            try clear c8
            try clear c11
            try clear c15
            try clear c15b0
            try clear c15b1
            try clear p2
            obtain ⟨kq, x39_12, rfl, HA, HJ12, HO_6, HB⟩ := hcut
            cases kq with
            | zero => exact absurd HA.out (by simp [thrumlaw21_NetGives.j1])
            | succ kj12 =>
              have H := HA.out
              clear HA
              simp only [thrumlaw21_NetGives.j1] at H
              by_cases c19 : x39_12 = true
              · subst c19
                have H1 : (some false) = some r := by first | (rw [if_pos rfl] at H; exact H) | (rw [if_pos True.intro] at H; exact H)
                clear H
                have H := H1
                clear H1
                obtain rfl := Option.some.inj H
                go_wp2
                go_ret
                exact ⟨by first | rfl | (simp [errW_none, errW_some] <;> rfl) | (simp [*, errW_none, errW_some] <;> rfl), by repeat (first | (with_reducible first | exact HB.out | apply below_alloc | apply pw_below_drewN | apply below_drew1) | exact HB.out)⟩
              · replace c19 := Bool.eq_false_iff.mpr c19
                subst c19
                have H1 : (if 0 ≤ (l0.length : Int) then (if ((l0.length : Int) : Int).toNat ≤ 35184372088832 then ((some (List.replicate ((l0.length : Int) : Int).toNat 0 : List Int)).bind fun y203 => (thrumlaw21_NetGives.l0 kj12 l0 l1 true t198 y203 (y203.length : Int) 0)) else (none)) else (none)) = some r := by rw [if_neg (show ¬ (false = true) by decide)] at H; exact H
                clear H
                have H := H1
                clear H1
                by_cases c20 : 0 ≤ (l0.length : Int)
                · rw [if_pos c20] at H
                  have c20b0 := eq_true c20
                  have c20b1 : decide (0 ≤ (l0.length : Int)) = true := decide_eq_true c20
                  clear c20
                  by_cases c21 : ((l0.length : Int) : Int).toNat ≤ 35184372088832
                  · rw [if_pos c21] at H
                    have c21b0 := eq_true c21
                    have c21b1 : decide (((l0.length : Int) : Int).toNat ≤ 35184372088832) = true := decide_eq_true c21
                    clear c21
                    obtain ⟨y203, hy203⟩ : ∃ y_ : List Int, y_ = (List.replicate ((l0.length : Int) : Int).toNat 0) := ⟨_, rfl⟩
                    replace H : (thrumlaw21_NetGives.l0 kj12 l0 l1 true t198 y203 (y203.length : Int) 0) = some r := by first | (rw [hy203]; with_reducible exact H) | (have H2_ := (Option.bind_some _ _).symm.trans H; rw [hy203]; with_reducible exact H2_) | (have H2_ := (Option.bind_some _ _).symm.trans H; with_reducible exact H2_) | with_reducible exact H | (rw [hy203]; exact H) | exact H
                    have Ny203 := Aside0.mk hy203
                    clear hy203
                    have H' := Aside0.mk H
                    clear H
                    go_wp2_with (first | ((with_reducible refine gate_dst (N := 42) rfl ?_); (try (refine gate_guard (by rfl) ?_; dsimp only)); refine Kd.R_make (Kd.int .i64) _ 3 rfl (N := 42) rfl 34 _ _ rfl (l0.length : Int) rfl rfl Try.underlying34 (.int .i64 0) 8 info3 rfl (by decide) (by omega) 0 (ok := fun _ => True) (okp := fun _ => True) rfl (fun _ hk => hk) trivial (of_decide_eq_true (by first | (with_reducible assumption) | assumption)) (Nat.le_trans (Nat.mul_le_mul_right _ (of_decide_eq_true (by first | (with_reducible assumption) | assumption) : (l0.length : Int).toNat ≤ 35184372088832)) (by omega)) (Below.refl _ _) (Nat.le_refl _) ?_; intro v204 w22 ho23 hb hg_ hnew_; clear hg_ hnew_; (first | rw [← Ny203.out] at ho23 | (simp only [Int.reduceToNat] at ho23; rw [← Ny203.out] at ho23)); have n0_ := Aside0.mk (Kd.N_elder' (by (with_reducible repeat (first | apply Kd.N_alloc | apply Kd.N_drewN | apply Kd.N_drew)); exact HO_6.out) (Kd.R_base ho23) hb); have n1_ := Aside0.mk (Kd.R_lower ho23 (below_size (by repeat (first | (with_reducible first | exact HB.out | apply below_alloc | apply pw_below_drewN | apply below_drew1) | exact HB.out)))); have n2_ := Aside0.mk (below_step (by repeat (first | (with_reducible first | exact HB.out | apply below_alloc | apply pw_below_drewN | apply below_drew1) | exact HB.out)) hb); clear HO_6; clear HB; have HO_6 := n0_; have HO205 := n1_; have HB := n2_; clear n0_ n1_ n2_; clear hb ho23; obtain ⟨Ao24, co24, eo24⟩ := Kd.R_slice HO205.out; subst eo24))
                    go_loopg [45] kj12 (fun kq v45 w' => ∃ (x8_3 : List Int) (x45_3 : Int), v45 = .int .i64 x45_3 ∧ Aside0 (thrumlaw21_NetGives.l0 kq l0 l1 true t198 x8_3 (y203.length : Int) x45_3 = some r) ∧ Aside0 (kq ≤ kj12) ∧ Aside0 (Kd.N k40 40 w' w.heap.size (fun k_ => some k_ ≠ ((.slice Ao24 y203.length co24) : Value).ownBlock) v199 t198) ∧ Aside0 (Kd.R (Kd.int .i64) 3 w' w.heap.size (fun _ => True) (.slice Ao24 y203.length co24) x8_3) ∧ Aside0 (Below w.heap.size w w'))
                    case atStart => exact ⟨(y203), (0), (by first | rfl | (simp; done) | (simp [*]; done)), H', ⟨Nat.le_refl _⟩, ⟨by (with_reducible repeat (first | apply Kd.N_alloc | apply Kd.N_drewN | apply Kd.N_drew)); exact Kd.N_mono HO_6.out (fun _ hk => hk.2)⟩, ⟨by (with_reducible repeat (first | apply Kd.R_alloc | apply Kd.R_drewN | apply Kd.R_drew)); exact HO205.out⟩, ⟨by repeat (first | (with_reducible first | exact HB.out | apply below_alloc | apply pw_below_drewN | apply below_drew1) | exact HB.out)⟩⟩
                    case round =>
                      clear H'
                      try clear c1
                      try clear c2
                      try clear p2
                      try clear c4
                      try clear c8
                      try clear c11
                      try clear c15
                      try clear c15b0
                      try clear c15b1
                      try clear c19
                      try clear c20
                      try clear c20b0
                      try clear c20b1
                      try clear c21
                      try clear c21b0
                      try clear c21b1
                      try clear c22
                      try clear p2
                      obtain ⟨x8_3, x45_3, rfl, HA, HK3, HO_6, HO_8, HB⟩ := hrel
                      have hl8_3 := (Kd.R_reads' HO_8.out).1
                      rw [hl8_3] at HO_8
                      (try simp only [hl8_3])
                      (try simp only [hl8_3] at HO_6)
                      cases gk with
                      | zero => exact absurd HA.out (by simp [thrumlaw21_NetGives.l0])
                      | succ k3 =>
                        have H := HA.out
                        clear HA
                        simp only [thrumlaw21_NetGives.l0] at H
                        by_cases c25 : x45_3 < (y203.length : Int)
                        · rw [if_pos c25] at H
                          have c25b0 : decide (x45_3 < (y203.length : Int)) = true := decide_eq_true c25
                          (try rw [hl8_3] at c25b0)
                          clear c25
                          by_cases c26 : 0 ≤ x45_3
                          · rw [if_pos c26] at H
                            have c26b0 : decide (0 ≤ x45_3) = true := decide_eq_true c26
                            (try rw [hl8_3] at c26b0)
                            clear c26
                            by_cases c27 : x45_3 < (x8_3.length : Int)
                            · rw [if_pos c27] at H
                              have c27b0 : decide (x45_3 < (x8_3.length : Int)) = true := decide_eq_true c27
                              (try rw [hl8_3] at c27b0)
                              clear c27
                              obtain ⟨y206, hy206⟩ : ∃ y_ : List Int, y_ = (x8_3.set (x45_3 : Int).toNat x45_3) := ⟨_, rfl⟩
                              replace H : (thrumlaw21_NetGives.l0 k3 l0 l1 true t198 y206 (y203.length : Int) (wrap64 (x45_3 + 1))) = some r := by first | (rw [hy206]; with_reducible exact H) | (have H2_ := (Option.bind_some _ _).symm.trans H; rw [hy206]; with_reducible exact H2_) | (have H2_ := (Option.bind_some _ _).symm.trans H; with_reducible exact H2_) | with_reducible exact H | (rw [hy206]; exact H) | exact H
                              have Ny206 := Aside0.mk hy206
                              clear hy206
                              have H' := Aside0.mk H
                              clear H
                              have p28 : 0 ≤ (x45_3 : Int) := of_decide_eq_true (by first | (with_reducible assumption) | assumption)
                              have q28 : (x45_3 : Int) < ((x8_3.length : Int) : Int) := of_decide_eq_true (by first | (with_reducible assumption) | assumption)
                              obtain ⟨go28, co28, eo28, gb28, gl28, cl28, HG28⟩ := Kd.R_form HO_8.out (by omega)
                              (first | cases eo28 | (injection eo28 with ea_ en_ ec_; (first | subst ea_ | (injection ea_ with ea_; subst ea_)); subst ec_; clear en_))
                              have GB28 := Aside0.mk gb28
                              have GG28 := Aside0.mk HG28
                              clear gb28 gl28 HG28
                              obtain ⟨hx28_0, hf28_0⟩ := Kd.R_celln 0 HO_8.out (x45_3 : Int) p28 q28
                              replace p28 := eq_true p28; (try (have p28s := p28; rw [List.length_drop] at p28s)); (try (have p28t := p28; rw [List.length_take] at p28t))
                              replace q28 := eq_true q28; (try (have q28s := q28; rw [List.length_drop] at q28s)); (try (have q28t := q28; rw [List.length_take] at q28t))
                              have HP29 := Kd.R_putg HO_8.out (x45_3 : Int) x45_3
                              go_wp2_with (first | ((with_reducible refine gate_store (t := 3) (p := 51) rfl ?_); refine store_event (t := 3) (p := 51) (v := ?vo_w30) (w1 := (wr.setCell ⟨go28, (x45_3 : Int).toNat, none⟩ (.int .i64 x45_3))) ?hg ?ho ?hn ?hr ?_; (case ho => rfl); (case hg => rfl); (case hn => rfl); (case hr => first | (go_simp; done) | (go_simp; rfl)); intro w30 hw; have hg : wr.grownBy w30 (some go28) := (by rw [hw]; exact HP29.2); have hp_ : Kd.R (Kd.int .i64) 3 w30 w.heap.size (fun _ => True) (.slice (some ⟨go28, 0, none⟩) x8_3.length co24) y206 := (by rw [hw, Ny206.out]; exact HP29.1); clear HP29; have n0_ := Aside0.mk (Kd.N_afterv (v := (.slice (some ⟨go28, 0, none⟩) x8_3.length co24)) (v1 := (.slice (some ⟨go28, 0, none⟩) x8_3.length co24)) (ok := (fun _ => True)) (by (with_reducible repeat (first | apply Kd.N_alloc | apply Kd.N_drewN | apply Kd.N_drew)); exact Kd.N_mono HO_6.out (fun _ hk => ⟨trivial, hk⟩)) hg (.inl rfl)); have n1_ := Aside0.mk (hp_); have n2_ := Aside0.mk ((by rw [hw]; exact below_set (HB.out) GB28.out : Below w.heap.size w w30)); clear HO_6; clear HO_8; clear HB; have HO_6 := n0_; have HO_8 := n1_; have HB := n2_; clear n0_ n1_ n2_; clear hg hw hp_))
                              (try simp only [← hl8_3])
                              go_roundg k3
                              case measure => have := HJ4.out; have := HJ12.out; have := HK3.out; omega
                              case rel => exact ⟨(y206), (wrap64 (x45_3 + 1)), (by first | rfl | (simp; done) | (simp [*]; done)), H', ⟨by have := HJ4.out; have := HJ12.out; have := HK3.out; omega⟩, ⟨by (try simp only [hl8_3]); (with_reducible repeat (first | apply Kd.N_alloc | apply Kd.N_drewN | apply Kd.N_drew)); exact Kd.N_mono HO_6.out (fun _ hk => hk.2)⟩, ⟨by (try simp only [hl8_3]); (with_reducible repeat (first | apply Kd.R_alloc | apply Kd.R_drewN | apply Kd.R_drew)); exact HO_8.out⟩, ⟨by repeat (first | (with_reducible first | exact HB.out | apply below_alloc | apply pw_below_drewN | apply below_drew1) | exact HB.out)⟩⟩
                            · rw [if_neg c27] at H
                              exact absurd H (by simp)
                          · rw [if_neg c26] at H
                            exact absurd H (by simp)
                        · rw [if_neg c25] at H
                          have c25b0 : decide (x45_3 < (y203.length : Int)) = false := decide_eq_false c25
                          (try rw [hl8_3] at c25b0)
                          clear c25
                          have H' := Aside0.mk H
                          clear H
                          go_wp2
                          go_loopg [6, 8, 55] k3 (fun kq v6 v8 v55 w' => ∃ (x6_4 : List (S40)) (x8_4 : List Int) (x55_4 : Int), v55 = .int .i64 x55_4 ∧ Aside0 (thrumlaw21_NetGives.l1 kq l0 l1 true x6_4 x8_4 (l0.length : Int) x55_4 = some r) ∧ Aside0 (kq ≤ k3) ∧ Aside0 (Kd.N k40 40 w' w.heap.size (fun k_ => some k_ ≠ (v8 : Value).ownBlock) v6 x6_4) ∧ Aside0 (Kd.R (Kd.int .i64) 3 w' w.heap.size (fun _ => True) v8 x8_4) ∧ Aside0 (Below w.heap.size w w'))
                          case atStart => exact ⟨(t198), (x8_3), (0), (by first | rfl | (simp; done) | (simp [*]; done)), H', ⟨Nat.le_refl _⟩, ⟨by (try simp only [hl8_3]); (with_reducible repeat (first | apply Kd.N_alloc | apply Kd.N_drewN | apply Kd.N_drew)); exact HO_6.out⟩, ⟨by (try simp only [hl8_3]); (with_reducible repeat (first | apply Kd.R_alloc | apply Kd.R_drewN | apply Kd.R_drew)); exact HO_8.out⟩, ⟨by repeat (first | (with_reducible first | exact HB.out | apply below_alloc | apply pw_below_drewN | apply below_drew1) | exact HB.out)⟩⟩
                          case round =>
                            clear H'
                            try clear c1
                            try clear c2
                            try clear p2
                            try clear q2
                            try clear hx2
                            try clear hf2
                            try clear c4
                            try clear p6
                            try clear c8
                            try clear c11
                            try clear c15
                            try clear c15b0
                            try clear c15b1
                            try clear c19
                            try clear c20
                            try clear c20b0
                            try clear c20b1
                            try clear c21
                            try clear c21b0
                            try clear c21b1
                            try clear c22
                            try clear c25
                            try clear c25b0
                            try clear c26
                            try clear c26b0
                            try clear c27
                            try clear c27b0
                            try clear p28
                            try clear q28
                            try clear hx28
                            try clear hf28
                            try clear hx28_0
                            try clear p2
                            try clear p28
                            try clear q28
                            obtain ⟨x6_4, x8_4, x55_4, rfl, HA, HK4, HO_6, HO_8, HB⟩ := hrel
                            cases gk with
                            | zero => exact absurd HA.out (by simp [thrumlaw21_NetGives.l1])
                            | succ k4 =>
                              have H := HA.out
                              clear HA
                              simp only [thrumlaw21_NetGives.l1] at H
                              by_cases c31 : x55_4 < (l0.length : Int)
                              · rw [if_pos c31] at H
                                have c31b0 : decide (x55_4 < (l0.length : Int)) = true := decide_eq_true c31
                                (try rw [hl8_3] at c31b0)
                                clear c31
                                have HC32 := Aside0.mk H
                                clear H
                                go_upto_if 61 with (fail)
                                go_cut [11] (fun v11 wc => ∃ (kq : Nat) (x11_31 : Int), v11 = .int .i64 x11_31 ∧ Aside0 (thrumlaw21_NetGives.j4 kq l0 l1 true x6_4 x8_4 x11_31 (l0.length : Int) x55_4 = some r) ∧ Aside0 (kq ≤ k4) ∧ Aside0 (Kd.N k40 40 wc w.heap.size (fun k_ => some k_ ≠ (u8 : Value).ownBlock) u6 x6_4) ∧ Aside0 (Kd.R (Kd.int .i64) 3 wc w.heap.size (fun _ => True) u8 x8_4) ∧ Aside0 (Below w.heap.size w wc))
                                case first =>
                                  have H := HC32.out
                                  clear HC32
                                  by_cases c33 : x55_4 < (l1.length : Int)
                                  · rw [if_pos c33] at H
                                    have c33b0 : decide (x55_4 < (l1.length : Int)) = true := decide_eq_true c33
                                    (try rw [hl8_3] at c33b0)
                                    clear c33
                                    (first | rw [c33b0] | (simp only [i64_w, i32_w]; rw [c33b0]) | skip)
                                    by_cases c34 : 0 ≤ x55_4
                                    · rw [if_pos c34] at H
                                      have c34b0 : decide (0 ≤ x55_4) = true := decide_eq_true c34
                                      (try rw [hl8_3] at c34b0)
                                      clear c34
                                      by_cases c35 : (x8_4.length : Int) = 0
                                      · rw [if_pos c35] at H
                                        exact absurd H (by simp)
                                      · rw [if_neg c35] at H
                                        have c35b0 : ((x8_4.length : Int) == 0) = false := beq_eq_false_iff_ne.mpr c35
                                        have c35b1 : ((x8_4.length : Int) != 0) = true := bne_iff_ne.mpr c35
                                        have c35b2 : ¬ (x8_4 = []) := fun h_ => c35 (by rw [h_]; rfl)
                                        have H' := Aside0.mk H
                                        clear H
                                        have p207 : 0 ≤ (x55_4 : Int) := of_decide_eq_true (by first | (with_reducible assumption) | assumption)
                                        have q207 : x55_4 < (l1.length : Int) := of_decide_eq_true (by first | (with_reducible assumption) | assumption)
                                        obtain ⟨ad207, e207, hx207_0⟩ := Kd.at_int HR1.out x55_4 p207 q207
                                        cases e207
                                        replace hx207_0 := (HB.out.cell (World.block_lt_of_cell? w _ hx207_0)).trans hx207_0
                                        replace p207 := eq_true p207; (try (have p207s := p207; rw [List.length_drop] at p207s)); (try (have p207t := p207; rw [List.length_take] at p207t))
                                        replace q207 := eq_true q207; (try (have q207s := q207; rw [List.length_drop] at q207s)); (try (have q207t := q207; rw [List.length_take] at q207t))
                                        obtain ⟨Ao36, co36, eo36⟩ := Kd.R_slice HO_8.out
                                        subst eo36
                                        go_wp2
                                        go_meet
                                        case rel => exact ⟨_, (Int.tmod (wrap64 ((Int.tmod (rd l1 x55_4) (x8_4.length : Int)) + (x8_4.length : Int))) (x8_4.length : Int)), (by first | rfl | (simp; done) | (simp [*]; done)), H', ⟨by have := HJ4.out; have := HJ12.out; have := HK3.out; have := HK4.out; first | omega | exact Nat.le_refl _⟩, ⟨by (try simp only [hl8_3]); (with_reducible repeat (first | apply Kd.N_alloc | apply Kd.N_drewN | apply Kd.N_drew)); exact HO_6.out⟩, ⟨by (try simp only [hl8_3]); (with_reducible repeat (first | apply Kd.R_alloc | apply Kd.R_drewN | apply Kd.R_drew)); exact HO_8.out⟩, ⟨by repeat (first | (with_reducible first | exact HB.out | apply below_alloc | apply pw_below_drewN | apply below_drew1) | exact HB.out)⟩⟩
                                    · rw [if_neg c34] at H
                                      exact absurd H (by simp)
                                  · rw [if_neg c33] at H
                                    have c33b0 : decide (x55_4 < (l1.length : Int)) = false := decide_eq_false c33
                                    (try rw [hl8_3] at c33b0)
                                    clear c33
                                    (first | rw [c33b0] | (simp only [i64_w, i32_w]; rw [c33b0]) | skip)
                                    have H' := Aside0.mk H
                                    clear H
                                    go_wp2
                                    go_meet
                                    case rel => exact ⟨_, (0), (by first | rfl | (simp; done) | (simp [*]; done)), H', ⟨by have := HJ4.out; have := HJ12.out; have := HK3.out; have := HK4.out; first | omega | exact Nat.le_refl _⟩, ⟨by (try simp only [hl8_3]); (with_reducible repeat (first | apply Kd.N_alloc | apply Kd.N_drewN | apply Kd.N_drew)); exact HO_6.out⟩, ⟨by (try simp only [hl8_3]); (with_reducible repeat (first | apply Kd.R_alloc | apply Kd.R_drewN | apply Kd.R_drew)); exact HO_8.out⟩, ⟨by repeat (first | (with_reducible first | exact HB.out | apply below_alloc | apply pw_below_drewN | apply below_drew1) | exact HB.out)⟩⟩
                                case rest =>
                                  clear HC32
                                  try clear c1
                                  try clear c2
                                  try clear p2
                                  try clear q2
                                  try clear hx2
                                  try clear hf2
                                  try clear c3
                                  try clear c4
                                  try clear p6
                                  try clear c8
                                  try clear c11
                                  try clear c15
                                  try clear c15b0
                                  try clear c15b1
                                  try clear c19
                                  try clear c20
                                  try clear c20b0
                                  try clear c20b1
                                  try clear p20
                                  try clear q20
                                  try clear hx20
                                  try clear c21
                                  try clear c21b0
                                  try clear c21b1
                                  try clear c22
                                  try clear c25
                                  try clear c25b0
                                  try clear c26
                                  try clear c26b0
                                  try clear c27
                                  try clear c27b0
                                  try clear p28
                                  try clear q28
                                  try clear hx28
                                  try clear hf28
                                  try clear c31
                                  try clear c31b0
                                  try clear c33
                                  try clear c33b0
                                  try clear c34
                                  try clear c34b0
                                  try clear c35
                                  try clear c35b0
                                  try clear c35b1
                                  try clear c35b2
                                  try clear hx207_0
                                  try clear hx28_0
                                  try clear p2
                                  try clear p207
                                  try clear p28
                                  try clear p6
                                  try clear q2
                                  try clear q207
                                  try clear q28
                                  obtain ⟨kq, x11_31, rfl, HA, HJ31, HO_6, HO_8, HB⟩ := hcut
                                  cases kq with
                                  | zero => exact absurd HA.out (by simp [thrumlaw21_NetGives.j4])
                                  | succ kj31 =>
                                    have H := HA.out
                                    clear HA
                                    simp only [thrumlaw21_NetGives.j4] at H
                                    replace H := Option.bind_eq_some_iff.mp H
                                    obtain ⟨⟨t208, t209, t212, t215⟩, A370, H⟩ := H
                                    replace H : (if t215 = 0 then (if 0 ≤ x11_31 then (if x11_31 < (x8_4.length : Int) then (if 0 ≤ (rd x8_4 x11_31) then (if (rd x8_4 x11_31) < (l0.length : Int) then ((thrumref21_One.f t208 t209 ((rd_T40 l0 (rd x8_4 x11_31)).f0) ((rd_T40 l0 (rd x8_4 x11_31)).f1)).bind fun t219 => (if t219 = true then (if (t212.length : Int) = (wrap64 ((x8_4.length : Int) - 1)) then (if x11_31 ≤ (x8_4.length : Int) then ((some (x8_4.take (x11_31 : Int).toNat : List Int)).bind fun y220 => (if ([] : List Int).length + y220.length < 17592186044416 then ((some (([] : List Int) ++ y220 : List Int)).bind fun y225 => (if 0 ≤ (wrap64 (x11_31 + 1)) then (if (wrap64 (x11_31 + 1)) ≤ (x8_4.length : Int) then ((some (x8_4.drop ((wrap64 (x11_31 + 1)) : Int).toNat : List Int)).bind fun y228 => (if y225.length + y228.length < 17592186044416 then (thrumlaw21_NetGives.l1 kj31 l0 l1 true t212 (y225 ++ y228) (l0.length : Int) (wrap64 (x55_4 + 1))) else (none))) else (none)) else (none))) else (none))) else (none)) else (some false)) else (some false))) else (none)) else (none)) else (none)) else (none)) else (some false)) = some r := H
                                    have A37 := Aside0.mk A370
                                    clear A370
                                    by_cases c38 : t215 = 0
                                    · rw [if_pos c38] at H
                                      have c38b0 : (t215 == 0) = true := beq_iff_eq.mpr c38
                                      have c38b1 : (t215 != 0) = false := bne_eq_false_iff_eq.mpr c38
                                      clear c38
                                      by_cases c39 : 0 ≤ x11_31
                                      · rw [if_pos c39] at H
                                        have c39b0 : decide (0 ≤ x11_31) = true := decide_eq_true c39
                                        (try rw [hl8_3] at c39b0)
                                        clear c39
                                        by_cases c40 : x11_31 < (x8_4.length : Int)
                                        · rw [if_pos c40] at H
                                          have c40b0 : decide (x11_31 < (x8_4.length : Int)) = true := decide_eq_true c40
                                          (try rw [hl8_3] at c40b0)
                                          clear c40
                                          by_cases c41 : 0 ≤ (rd x8_4 x11_31)
                                          · rw [if_pos c41] at H
                                            have c41b0 : decide (0 ≤ (rd x8_4 x11_31)) = true := decide_eq_true c41
                                            (try rw [hl8_3] at c41b0)
                                            clear c41
                                            by_cases c42 : (rd x8_4 x11_31) < (l0.length : Int)
                                            · rw [if_pos c42] at H
                                              have c42b0 : decide ((rd x8_4 x11_31) < (l0.length : Int)) = true := decide_eq_true c42
                                              (try rw [hl8_3] at c42b0)
                                              clear c42
                                              replace H := Option.bind_eq_some_iff.mp H
                                              obtain ⟨t219, A430, H⟩ := H
                                              replace H : (if t219 = true then (if (t212.length : Int) = (wrap64 ((x8_4.length : Int) - 1)) then (if x11_31 ≤ (x8_4.length : Int) then ((some (x8_4.take (x11_31 : Int).toNat : List Int)).bind fun y220 => (if ([] : List Int).length + y220.length < 17592186044416 then ((some (([] : List Int) ++ y220 : List Int)).bind fun y225 => (if 0 ≤ (wrap64 (x11_31 + 1)) then (if (wrap64 (x11_31 + 1)) ≤ (x8_4.length : Int) then ((some (x8_4.drop ((wrap64 (x11_31 + 1)) : Int).toNat : List Int)).bind fun y228 => (if y225.length + y228.length < 17592186044416 then (thrumlaw21_NetGives.l1 kj31 l0 l1 true t212 (y225 ++ y228) (l0.length : Int) (wrap64 (x55_4 + 1))) else (none))) else (none)) else (none))) else (none))) else (none)) else (some false)) else (some false)) = some r := H
                                              have A43 := Aside0.mk A430
                                              clear A430
                                              by_cases c44 : t219 = true
                                              · subst c44
                                                have H1 : (if (t212.length : Int) = (wrap64 ((x8_4.length : Int) - 1)) then (if x11_31 ≤ (x8_4.length : Int) then ((some (x8_4.take (x11_31 : Int).toNat : List Int)).bind fun y220 => (if ([] : List Int).length + y220.length < 17592186044416 then ((some (([] : List Int) ++ y220 : List Int)).bind fun y225 => (if 0 ≤ (wrap64 (x11_31 + 1)) then (if (wrap64 (x11_31 + 1)) ≤ (x8_4.length : Int) then ((some (x8_4.drop ((wrap64 (x11_31 + 1)) : Int).toNat : List Int)).bind fun y228 => (if y225.length + y228.length < 17592186044416 then (thrumlaw21_NetGives.l1 kj31 l0 l1 true t212 (y225 ++ y228) (l0.length : Int) (wrap64 (x55_4 + 1))) else (none))) else (none)) else (none))) else (none))) else (none)) else (some false)) = some r := by first | (rw [if_pos rfl] at H; exact H) | (rw [if_pos True.intro] at H; exact H)
                                                clear H
                                                have H := H1
                                                clear H1
                                                by_cases c45 : (t212.length : Int) = (wrap64 ((x8_4.length : Int) - 1))
                                                · rw [if_pos c45] at H
                                                  have c45b0 : ((t212.length : Int) == (wrap64 ((x8_4.length : Int) - 1))) = true := beq_iff_eq.mpr c45
                                                  have c45b1 : ((t212.length : Int) != (wrap64 ((x8_4.length : Int) - 1))) = false := bne_eq_false_iff_eq.mpr c45
                                                  clear c45
                                                  have c46b0 := eq_true (of_decide_eq_true (by first | (with_reducible assumption) | assumption) : 0 ≤ x11_31)
                                                  by_cases c47 : x11_31 ≤ (x8_4.length : Int)
                                                  · rw [if_pos c47] at H
                                                    have c47b0 := eq_true c47
                                                    have c47b1 : decide (x11_31 ≤ (x8_4.length : Int)) = true := decide_eq_true c47
                                                    (try rw [hl8_3] at c47b1)
                                                    clear c47
                                                    obtain ⟨y220, hy220⟩ : ∃ y_ : List Int, y_ = (x8_4.take (x11_31 : Int).toNat) := ⟨_, rfl⟩
                                                    replace H : (if ([] : List Int).length + y220.length < 17592186044416 then ((some (([] : List Int) ++ y220 : List Int)).bind fun y225 => (if 0 ≤ (wrap64 (x11_31 + 1)) then (if (wrap64 (x11_31 + 1)) ≤ (x8_4.length : Int) then ((some (x8_4.drop ((wrap64 (x11_31 + 1)) : Int).toNat : List Int)).bind fun y228 => (if y225.length + y228.length < 17592186044416 then (thrumlaw21_NetGives.l1 kj31 l0 l1 true t212 (y225 ++ y228) (l0.length : Int) (wrap64 (x55_4 + 1))) else (none))) else (none)) else (none))) else (none)) = some r := by first | (rw [hy220]; with_reducible exact H) | (have H2_ := (Option.bind_some _ _).symm.trans H; rw [hy220]; with_reducible exact H2_) | (have H2_ := (Option.bind_some _ _).symm.trans H; with_reducible exact H2_) | with_reducible exact H | (rw [hy220]; exact H) | exact H
                                                    have Ny220 := Aside0.mk hy220
                                                    clear hy220
                                                    by_cases c48 : ([] : List Int).length + y220.length < 17592186044416
                                                    · rw [if_pos c48] at H
                                                      have LMc48 := Aside0.mk c48
                                                      clear c48
                                                      obtain ⟨y225, hy225⟩ : ∃ y_ : List Int, y_ = (([] : List Int) ++ y220) := ⟨_, rfl⟩
                                                      replace H : (if 0 ≤ (wrap64 (x11_31 + 1)) then (if (wrap64 (x11_31 + 1)) ≤ (x8_4.length : Int) then ((some (x8_4.drop ((wrap64 (x11_31 + 1)) : Int).toNat : List Int)).bind fun y228 => (if y225.length + y228.length < 17592186044416 then (thrumlaw21_NetGives.l1 kj31 l0 l1 true t212 (y225 ++ y228) (l0.length : Int) (wrap64 (x55_4 + 1))) else (none))) else (none)) else (none)) = some r := by first | (rw [hy225]; with_reducible exact H) | (have H2_ := (Option.bind_some _ _).symm.trans H; rw [hy225]; with_reducible exact H2_) | (have H2_ := (Option.bind_some _ _).symm.trans H; with_reducible exact H2_) | with_reducible exact H | (rw [hy225]; exact H) | exact H
                                                      have Ny225 := Aside0.mk hy225
                                                      clear hy225
                                                      obtain ⟨ji49, hji49⟩ : ∃ j_ : Int, (wrap64 (x11_31 + 1)) = j_ := ⟨_, rfl⟩
                                                      replace H : (if 0 ≤ (ji49) then (if (ji49) ≤ (x8_4.length : Int) then ((some (x8_4.drop ((ji49) : Int).toNat : List Int)).bind fun y228 => (if y225.length + y228.length < 17592186044416 then (thrumlaw21_NetGives.l1 kj31 l0 l1 true t212 (y225 ++ y228) (l0.length : Int) (wrap64 (x55_4 + 1))) else (none))) else (none)) else (none)) = some r := by first | (rw [hji49] at H; exact H) | (simp only [hji49] at H ⊢; exact H)
                                                      (try rw [hji49] at A37)
                                                      (try rw [hji49] at A43)
                                                      have hji49w : (IntKind.i64.wrap (x11_31 + 1)) = ji49 := (i64_w _).trans hji49
                                                      by_cases c50 : 0 ≤ (ji49)
                                                      · rw [if_pos c50] at H
                                                        have c50b0 := eq_true c50
                                                        have c50b1 : decide (0 ≤ (ji49)) = true := decide_eq_true c50
                                                        (try rw [hl8_3] at c50b1)
                                                        clear c50
                                                        by_cases c51 : (ji49) ≤ (x8_4.length : Int)
                                                        · rw [if_pos c51] at H
                                                          have c51b0 := eq_true c51
                                                          have c51b1 : decide ((ji49) ≤ (x8_4.length : Int)) = true := decide_eq_true c51
                                                          (try rw [hl8_3] at c51b1)
                                                          clear c51
                                                          obtain ⟨y228, hy228⟩ : ∃ y_ : List Int, y_ = (x8_4.drop ((ji49) : Int).toNat) := ⟨_, rfl⟩
                                                          replace H : (if y225.length + y228.length < 17592186044416 then (thrumlaw21_NetGives.l1 kj31 l0 l1 true t212 (y225 ++ y228) (l0.length : Int) (wrap64 (x55_4 + 1))) else (none)) = some r := by first | (rw [hy228]; with_reducible exact H) | (have H2_ := (Option.bind_some _ _).symm.trans H; rw [hy228]; with_reducible exact H2_) | (have H2_ := (Option.bind_some _ _).symm.trans H; with_reducible exact H2_) | with_reducible exact H | (rw [hy228]; exact H) | exact H
                                                          have Ny228 := Aside0.mk hy228
                                                          clear hy228
                                                          by_cases c52 : y225.length + y228.length < 17592186044416
                                                          · rw [if_pos c52] at H
                                                            have LMc52 := Aside0.mk c52
                                                            clear c52
                                                            obtain ⟨y233, hy233⟩ : ∃ y_ : List Int, y_ = (y225 ++ y228) := ⟨_, rfl⟩
                                                            replace H : (thrumlaw21_NetGives.l1 kj31 l0 l1 true t212 y233 (l0.length : Int) (wrap64 (x55_4 + 1))) = some r := by first | (rw [hy233]; with_reducible exact H) | (have H2_ := (Option.bind_some _ _).symm.trans H; rw [hy233]; with_reducible exact H2_) | (have H2_ := (Option.bind_some _ _).symm.trans H; with_reducible exact H2_) | with_reducible exact H | (rw [hy233]; exact H) | exact H
                                                            have Ny233 := Aside0.mk hy233
                                                            clear hy233
                                                            have H' := Aside0.mk H
                                                            clear H
                                                            obtain ⟨Ao53, co53, eo53⟩ := Kd.N_slice HO_6.out
                                                            subst eo53
                                                            try go_wp2_with (first | ((with_reducible refine gate_callee (f := 24) rfl ?_); refine goesL_ (some 78) rfl rfl Try.func24 (by kernel_rfl) rfl #[.slice Ao53 x6_4.length co53, .int .i64 x11_31] rfl (by (try simp only [List.map_toArray, List.map_cons, List.map_nil]); first | done | rfl | (simp only [List.length_drop, List.length_take]; rfl)) ?_; (with_reducible refine (net_Give.calls kj31 _ _ x6_4 x11_31 t208 t209 t212 t215 _ ?side1 ?side2 A37.out).mono ?_); (case side1 => repeat (first | exact (Kd.N_reads' HO_6.out).2.2 | (with_reducible refine Kd.C_alloc ?_ _) | (with_reducible refine Kd.C_drewN ?_ _) | (with_reducible refine Kd.C_drew ?_))); (case side2 => exact (Kd.N_reads' HO_6.out).2.1); rintro e w54 ⟨v210, v213, rfl, ho0, ho1, hb⟩; refine ⟨_, rfl, ?_⟩; have n0_ := Aside0.mk (Kd.N_elder' (by (with_reducible repeat (first | apply Kd.N_alloc | apply Kd.N_drewN | apply Kd.N_drew)); exact HO_6.out) (Kd.N_base ho1) hb); have n1_ := Aside0.mk (Kd.R_below (by (with_reducible repeat (first | apply Kd.R_alloc | apply Kd.R_drewN | apply Kd.R_drew)); exact HO_8.out) hb); have n2_ := Aside0.mk (Kd.V_lower (Kd.V_mono (ok' := fun k_ => some k_ ≠ (v213 : Value).ownBlock ∧ some k_ ≠ (.slice Ao53 x6_4.length co53 : Value).ownBlock ∧ some k_ ≠ (u8 : Value).ownBlock) ho0 (fun k_ hk_ => ⟨hk_.2, (Kd.fresh' (Kd.N_lt (by (with_reducible repeat (first | apply Kd.N_alloc | apply Kd.N_drewN | apply Kd.N_drew)); exact HO_6.out)) k_ hk_.1), (Kd.fresh' (Kd.R_lt (by (with_reducible repeat (first | apply Kd.R_alloc | apply Kd.R_drewN | apply Kd.R_drew)); exact HO_8.out)) k_ hk_.1)⟩)) (below_size (by repeat (first | (with_reducible first | exact HB.out | apply below_alloc | apply pw_below_drewN | apply below_drew1) | exact HB.out)))); have n3_ := Aside0.mk (Kd.N_lower (Kd.N_mono (ok' := fun k_ => some k_ ≠ (.slice Ao53 x6_4.length co53 : Value).ownBlock ∧ some k_ ≠ (u8 : Value).ownBlock) ho1 (fun k_ hk_ => ⟨(Kd.fresh' (Kd.N_lt (by (with_reducible repeat (first | apply Kd.N_alloc | apply Kd.N_drewN | apply Kd.N_drew)); exact HO_6.out)) k_ hk_), (Kd.fresh' (Kd.R_lt (by (with_reducible repeat (first | apply Kd.R_alloc | apply Kd.R_drewN | apply Kd.R_drew)); exact HO_8.out)) k_ hk_)⟩)) (below_size (by repeat (first | (with_reducible first | exact HB.out | apply below_alloc | apply pw_below_drewN | apply below_drew1) | exact HB.out)))); have n4_ := Aside0.mk (below_step (by repeat (first | (with_reducible first | exact HB.out | apply below_alloc | apply pw_below_drewN | apply below_drew1) | exact HB.out)) hb); clear HO_6; clear HO_8; clear HB; have HO_6 := n0_; have HO_8 := n1_; have HO211 := n2_; have HO214 := n3_; have HB := n4_; clear n0_ n1_ n2_ n3_ n4_; (try clear hb); (try clear hb2); (try clear hk); (try clear hi); (try clear ho0); (try clear ho1)) | ((with_reducible refine gate_dst (N := 12) rfl ?_); (try (refine gate_guard (by rfl) ?_; dsimp only)); refine box_event ?hg (N := 12) ?hd (cs := #[.int .i64 0, .slice none 0 0]) (t := 40) ?hr ?_; (case hd => rfl); (case hg => rfl); (case hr => first | (go_simp; done) | (go_simp; rfl)); intro gb216 hg w55 hbox hb; have n0_ := Aside0.mk (Kd.N_below (Kd.N_elderB (by (with_reducible repeat (first | apply Kd.N_alloc | apply Kd.N_drewN | apply Kd.N_drew)); exact HO_6.out) gb216 (Nat.le_of_eq hg.symm)) hb); have n1_ := Aside0.mk (Kd.R_below (by (with_reducible repeat (first | apply Kd.R_alloc | apply Kd.R_drewN | apply Kd.R_drew)); exact HO_8.out) hb); have n2_ := Aside0.mk (Kd.V_below (Kd.V_elderB (by (with_reducible repeat (first | apply Kd.V_alloc | apply Kd.V_drewN | apply Kd.V_drew)); exact HO211.out) gb216 (Nat.le_of_eq hg.symm)) hb); have n3_ := Aside0.mk (Kd.N_below (Kd.N_elderB (by (with_reducible repeat (first | apply Kd.N_alloc | apply Kd.N_drewN | apply Kd.N_drew)); exact HO214.out) gb216 (Nat.le_of_eq hg.symm)) hb); have n4_ := Aside0.mk (below_step (by repeat (first | (with_reducible first | exact HB.out | apply below_alloc | apply pw_below_drewN | apply below_drew1) | exact HB.out)) hb); have n5_ := Aside0.mk (hbox); have n6_ := Aside0.mk ((by rw [hg]; exact (below_size (by repeat (first | (with_reducible first | exact HB.out | apply below_alloc | apply pw_below_drewN | apply below_drew1) | exact HB.out))) : w.heap.size ≤ gb216)); have n7_ := Aside0.mk ((by rw [hg]; exact (below_size (by repeat (first | (with_reducible first | exact HB.out | apply below_alloc | apply pw_below_drewN | apply below_drew1) | exact HB.out))) : w.heap.size ≤ gb216)); clear HO_6; clear HO_8; clear HO211; clear HO214; clear HB; have HO_6 := n0_; have HO_8 := n1_; have HO211 := n2_; have HO214 := n3_; have HB := n4_; have BK216 := n5_; have GW216 := n6_; have GE216 := n7_; clear n0_ n1_ n2_ n3_ n4_ n5_ n6_ n7_; clear hb hbox hg; have hcz56_0 : w55.cell? ⟨gb216, 0, none⟩ = some (.int .i64 0) := (blk_cell BK216.out 0).trans rfl; have hcz56_1 : w55.cell? ⟨gb216, 1, none⟩ = some (.slice none 0 0) := (blk_cell BK216.out 1).trans rfl; have hfz56_0 := blk_frozen BK216.out 0; have hfz56_1 := blk_frozen BK216.out 1; obtain ⟨Ao57, co57, eo57⟩ := Kd.V_slice HO211.out; subst eo57))
                                                            have n0_ : Aside0 (Kd.N k40 40 ((w55.setCell ⟨gb216, 0, none⟩ (.int .i64 t208)).setCell ⟨gb216, 1, none⟩ (.slice Ao57 t209.length co57)) w.heap.size (fun k_ => some k_ ≠ (u8 : Value).ownBlock ∧ some k_ ≠ (v213 : Value).ownBlock ∧ k_ ≠ gb216) (.slice Ao53 x6_4.length co53) x6_4) := ⟨by (with_reducible repeat (first | apply Kd.N_alloc | apply Kd.N_drewN | apply Kd.N_drew)); exact Kd.N_mono (Kd.N_far (p := ⟨gb216, 1, none⟩) (Kd.N_far (p := ⟨gb216, 0, none⟩) (Kd.N_mono HO_6.out (fun k_ hk => (⟨hk, hk.2⟩ : _ ∧ k_ ≠ gb216))) (fun _ hk => hk.2) (.int .i64 t208)) (fun _ hk => hk.2) (.slice Ao57 t209.length co57)) (fun _ hk => ⟨hk.1.1.1, ⟨hk.1.1.2, hk.1.2⟩⟩)⟩
                                                            have n1_ : Aside0 (Kd.R (Kd.int .i64) 3 ((w55.setCell ⟨gb216, 0, none⟩ (.int .i64 t208)).setCell ⟨gb216, 1, none⟩ (.slice Ao57 t209.length co57)) w.heap.size (fun _ => True) u8 x8_4) := ⟨by (with_reducible repeat (first | apply Kd.R_alloc | apply Kd.R_drewN | apply Kd.R_drew)); exact Kd.R_mono (Kd.R_far (p := ⟨gb216, 1, none⟩) (Kd.R_far (p := ⟨gb216, 0, none⟩) (Kd.R_types HO_8.out BK216.out (by decide)) (fun _ hk => hk.2) (.int .i64 t208)) (fun _ hk => hk.2) (.slice Ao57 t209.length co57)) (fun _ hk => trivial)⟩
                                                            have n2_ : Aside0 (Kd.V (Kd.int .u8) 5 ((w55.setCell ⟨gb216, 0, none⟩ (.int .i64 t208)).setCell ⟨gb216, 1, none⟩ (.slice Ao57 t209.length co57)) w.heap.size (fun k_ => some k_ ≠ (.slice Ao53 x6_4.length co53 : Value).ownBlock ∧ some k_ ≠ (u8 : Value).ownBlock ∧ some k_ ≠ (v213 : Value).ownBlock ∧ k_ ≠ gb216) (.slice Ao57 t209.length co57) t209) := ⟨by (with_reducible repeat (first | apply Kd.V_alloc | apply Kd.V_drewN | apply Kd.V_drew)); exact Kd.V_mono (Kd.V_far (p := ⟨gb216, 1, none⟩) (Kd.V_far (p := ⟨gb216, 0, none⟩) (Kd.V_mono HO211.out (fun k_ hk => (⟨hk, hk.2⟩ : _ ∧ k_ ≠ gb216))) (fun _ hk => hk.2) (.int .i64 t208)) (fun _ hk => hk.2) (.slice Ao57 t209.length co57)) (fun _ hk => ⟨hk.1.1.2.1, ⟨hk.1.1.2.2, ⟨hk.1.1.1, hk.1.2⟩⟩⟩)⟩
                                                            have n3_ : Aside0 (Kd.N k40 40 ((w55.setCell ⟨gb216, 0, none⟩ (.int .i64 t208)).setCell ⟨gb216, 1, none⟩ (.slice Ao57 t209.length co57)) w.heap.size (fun k_ => some k_ ≠ (.slice Ao53 x6_4.length co53 : Value).ownBlock ∧ some k_ ≠ (u8 : Value).ownBlock ∧ k_ ≠ gb216) v213 t212) := ⟨by (with_reducible repeat (first | apply Kd.N_alloc | apply Kd.N_drewN | apply Kd.N_drew)); exact Kd.N_mono (Kd.N_far (p := ⟨gb216, 1, none⟩) (Kd.N_far (p := ⟨gb216, 0, none⟩) (Kd.N_mono HO214.out (fun k_ hk => (⟨hk, hk.2⟩ : _ ∧ k_ ≠ gb216))) (fun _ hk => hk.2) (.int .i64 t208)) (fun _ hk => hk.2) (.slice Ao57 t209.length co57)) (fun _ hk => ⟨hk.1.1.1, ⟨hk.1.1.2, hk.1.2⟩⟩)⟩
                                                            have n4_ : Aside0 (((w55.setCell ⟨gb216, 0, none⟩ (.int .i64 t208)).setCell ⟨gb216, 1, none⟩ (.slice Ao57 t209.length co57)).heap[gb216]? = some (.cells #[.int .i64 t208, .slice Ao57 t209.length co57] 40 (0, 0))) := ⟨by (with_reducible repeat (first | refine blk_drewN ?_ _ | refine blk_drew ?_ | refine blk_alloc ?_ _)); refine blk_put (cs := #[.int .i64 t208, .slice none 0 0]) ?_ 1 _ rfl; (with_reducible repeat (first | refine blk_drewN ?_ _ | refine blk_drew ?_ | refine blk_alloc ?_ _)); refine blk_put (cs := #[.int .i64 0, .slice none 0 0]) ?_ 0 _ rfl; (with_reducible repeat (first | refine blk_drewN ?_ _ | refine blk_drew ?_ | refine blk_alloc ?_ _)); exact BK216.out⟩
                                                            have n5_ : Aside0 (Below w.heap.size w ((w55.setCell ⟨gb216, 0, none⟩ (.int .i64 t208)).setCell ⟨gb216, 1, none⟩ (.slice Ao57 t209.length co57))) := ⟨by repeat (first | (with_reducible first | exact HB.out | apply below_alloc | apply pw_below_drewN | apply below_drew1 | refine below_set ?_ GE216.out) | exact HB.out)⟩
                                                            (try clear HO_6)
                                                            (try clear HO_8)
                                                            (try clear HO211)
                                                            (try clear HO214)
                                                            (try clear BK216)
                                                            (try clear HB)
                                                            generalize ((w55.setCell ⟨gb216, 0, none⟩ (.int .i64 t208)).setCell ⟨gb216, 1, none⟩ (.slice Ao57 t209.length co57)) = w58 at n0_ n1_ n2_ n3_ n4_ n5_ ⊢
                                                            have HO_6 := n0_
                                                            have HO_8 := n1_
                                                            have HO211 := n2_
                                                            have HO214 := n3_
                                                            have BK216 := n4_
                                                            have HB := n5_
                                                            clear n0_ n1_ n2_ n3_ n4_ n5_
                                                            have n0_ := Aside0.mk (Kd.N_drew HO_6.out)
                                                            have n1_ := Aside0.mk (Kd.R_drew HO_8.out)
                                                            have n2_ := Aside0.mk (Kd.V_drew HO211.out)
                                                            have n3_ := Aside0.mk (Kd.N_drew HO214.out)
                                                            have n4_ := Aside0.mk (blk_drew BK216.out)
                                                            have n5_ := Aside0.mk (below_drew1 HB.out)
                                                            clear HO_6
                                                            clear HO_8
                                                            clear HO211
                                                            clear HO214
                                                            clear BK216
                                                            clear HB
                                                            have HO_6 := n0_
                                                            have HO_8 := n1_
                                                            have HO211 := n2_
                                                            have HO214 := n3_
                                                            have BK216 := n4_
                                                            have HB := n5_
                                                            clear n0_ n1_ n2_ n3_ n4_ n5_
                                                            obtain ⟨Ao60, co60, eo60⟩ := Kd.R_slice HO_8.out
                                                            (first | subst eo60 | (injection eo60 with f1_ f2_ f3_; have f4_ := f1_.symm; have f5_ := f3_.symm; clear f1_ f2_ f3_; subst f4_; subst f5_))
                                                            have p217 : 0 ≤ (x11_31 : Int) := of_decide_eq_true (by first | (with_reducible assumption) | assumption)
                                                            have q217 : x11_31 < (x8_4.length : Int) := of_decide_eq_true (by first | (with_reducible assumption) | assumption)
                                                            obtain ⟨ad217, e217, hx217_0⟩ := Kd.at_int (Kd.R_reads' HO_8.out).2.2 x11_31 p217 q217
                                                            cases e217
                                                            replace p217 := eq_true p217; (try (have p217s := p217; rw [List.length_drop] at p217s)); (try (have p217t := p217; rw [List.length_take] at p217t))
                                                            replace q217 := eq_true q217; (try (have q217s := q217; rw [List.length_drop] at q217s)); (try (have q217t := q217; rw [List.length_take] at q217t))
                                                            have p218 : 0 ≤ ((rd x8_4 x11_31) : Int) := of_decide_eq_true (by first | (with_reducible assumption) | assumption)
                                                            have q218 : (rd x8_4 x11_31) < (l0.length : Int) := of_decide_eq_true (by first | (with_reducible assumption) | assumption)
                                                            obtain ⟨ad218, A218_1, c218_1, e218, hx218_0, hx218_1, hl218_1, hi218_1⟩ := at_T40 HR0.out (rd x8_4 x11_31) p218 q218
                                                            have hw218_1 := hx218_1
                                                            have hw218_0 := hx218_0
                                                            cases e218
                                                            replace hx218_0 := (HB.out.cell (World.block_lt_of_cell? w _ hx218_0)).trans hx218_0
                                                            replace hx218_1 := (HB.out.cell (World.block_lt_of_cell? w _ hx218_1)).trans hx218_1
                                                            have HR218_1 := Aside0.mk hi218_1
                                                            have HC218_1 := Aside0.mk hl218_1
                                                            clear hi218_1 hl218_1
                                                            replace p218 := eq_true p218; (try (have p218s := p218; rw [List.length_drop] at p218s)); (try (have p218t := p218; rw [List.length_take] at p218t))
                                                            replace q218 := eq_true q218; (try (have q218s := q218; rw [List.length_drop] at q218s)); (try (have q218t := q218; rw [List.length_take] at q218t))
                                                            refine start_ (n := 22) (S := fun w' => w'.cell? ⟨gb216, 0, none⟩ = some (.int .i64 t208) ∧ w'.cell? ⟨gb216, 1, none⟩ = some (.slice Ao57 t209.length co57) ∧ w'.cell? (ad217.add (x11_31).toNat) = some (.int .i64 (rd x8_4 x11_31)) ∧ w'.cell? (ad218.add (((rd x8_4 x11_31)).toNat * 2)) = some (.int .i64 ((rd_T40 l0 (rd x8_4 x11_31)).f0)) ∧ w'.cell? ⟨(ad218.add (((rd x8_4 x11_31)).toNat * 2)).block, (ad218.add (((rd x8_4 x11_31)).toNat * 2)).off + 1, none⟩ = some (.slice A218_1 ((rd_T40 l0 (rd x8_4 x11_31)).f1).length c218_1)) (ds := []) #[false, false, false, false, false, false, false, false, false, false, false, false, false, false, false, false, false, false, false, false, false, false] (by kernel_rfl) rfl rfl ⟨(blk_cell BK216.out 0).trans rfl, (blk_cell BK216.out 1).trans rfl, hx217_0, ((HB.out.cell (World.block_lt_of_cell? w _ hw218_0)).trans hw218_0), ((HB.out.cell (World.block_lt_of_cell? w _ hw218_1)).trans hw218_1)⟩ (fun hHeld => ?_); refine with_tabW thrumlaw21_NetGives.tab22 thrumlaw21_NetGives.bits22 (fun HT_ HW_ => ?_)
                                                            generalize w58.drew = w59 at HO_6 HO_8 HO211 HO214 BK216 HB HR218_1 hx217_0 hx218_0 hx218_1 hHeld ⊢
                                                            refine pure_ (i := 0) (N := some 82) (v := ?_) (a' := ?_) #[true, false, false, false, false, false, false, false, false, false, false, false, false, false, false, false, false, false, false, false, false, false] rfl rfl (any_of HT_.out (by kernel_rfl)) (fun _ _ _ h => h) (Or.inl ⟨by rfl, ?_⟩) ?_ ?_
                                                            rotate_left
                                                            · intro w'
                                                              go_simp
                                                              with_reducible rfl
                                                            rotate_left
                                                            · simp only [Act.put, List.setIfInBounds_toArray, List.set_cons_zero, List.set_cons_succ, i64_w, i32_w]
                                                              rfl
                                                            refine pure_ (i := 1) (N := some 83) (v := ?_) (a' := ?_) #[true, true, false, false, false, false, false, false, false, false, false, false, false, false, false, false, false, false, false, false, false, false] rfl rfl (any_of HT_.out (by kernel_rfl)) (fun _ _ _ h => h) (Or.inl ⟨by rfl, ?_⟩) ?_ ?_
                                                            rotate_left
                                                            · intro w'
                                                              go_simp
                                                              with_reducible rfl
                                                            rotate_left
                                                            · simp only [Act.put, List.setIfInBounds_toArray, List.set_cons_zero, List.set_cons_succ, i64_w, i32_w]
                                                              rfl
                                                            refine pure_ (i := 2) (N := some 84) (v := ?_) (a' := ?_) #[true, true, true, false, false, false, false, false, false, false, false, false, false, false, false, false, false, false, false, false, false, false] rfl rfl (any_of HT_.out (by kernel_rfl)) (fun _ _ _ h => h) (Or.inl ⟨by rfl, ?_⟩) ?_ ?_
                                                            rotate_left
                                                            · intro w'
                                                              go_simp
                                                              with_reducible rfl
                                                            rotate_left
                                                            · simp only [Act.put, List.setIfInBounds_toArray, List.set_cons_zero, List.set_cons_succ, i64_w, i32_w]
                                                              rfl
                                                            refine pure_ (i := 4) (N := some 86) (v := ?_) (a' := ?_) #[true, true, true, false, true, false, false, false, false, false, false, false, false, false, false, false, false, false, false, false, false, false] rfl rfl (any_of HT_.out (by kernel_rfl)) (fun _ _ _ h => h) (Or.inl ⟨by rfl, ?_⟩) ?_ ?_
                                                            rotate_left
                                                            · intro w'
                                                              go_simp
                                                              with_reducible rfl
                                                            rotate_left
                                                            · simp only [Act.put, List.setIfInBounds_toArray, List.set_cons_zero, List.set_cons_succ, i64_w, i32_w]
                                                              rfl
                                                            refine pure_ (i := 5) (N := some 87) (v := ?_) (a' := ?_) #[true, true, true, false, true, true, false, false, false, false, false, false, false, false, false, false, false, false, false, false, false, false] rfl rfl (any_of HT_.out (by kernel_rfl)) (fun _ _ _ h => h) (Or.inl ⟨by rfl, ?_⟩) ?_ ?_
                                                            rotate_left
                                                            · intro w'
                                                              go_simp
                                                              with_reducible rfl
                                                            rotate_left
                                                            · simp only [Act.put, List.setIfInBounds_toArray, List.set_cons_zero, List.set_cons_succ, i64_w, i32_w]
                                                              rfl
                                                            refine pure_ (i := 6) (N := some 88) (v := ?_) (a' := ?_) #[true, true, true, false, true, true, true, false, false, false, false, false, false, false, false, false, false, false, false, false, false, false] rfl rfl (any_of HT_.out (by kernel_rfl)) (fun _ _ _ h => h) (Or.inl ⟨by rfl, ?_⟩) ?_ ?_
                                                            rotate_left
                                                            · intro w'
                                                              go_simp
                                                              with_reducible rfl
                                                            rotate_left
                                                            · simp only [Act.put, List.setIfInBounds_toArray, List.set_cons_zero, List.set_cons_succ, i64_w, i32_w]
                                                              rfl
                                                            refine pure_ (i := 7) (N := some 89) (v := ?_) (a' := ?_) #[true, true, true, false, true, true, true, true, false, false, false, false, false, false, false, false, false, false, false, false, false, false] rfl rfl (any_of HT_.out (by kernel_rfl)) (fun _ _ _ h => h) (Or.inl ⟨by rfl, ?_⟩) ?_ ?_
                                                            rotate_left
                                                            · intro w'
                                                              go_simp
                                                              with_reducible rfl
                                                            rotate_left
                                                            · simp only [Act.put, List.setIfInBounds_toArray, List.set_cons_zero, List.set_cons_succ, i64_w, i32_w]
                                                              rfl
                                                            refine take_ (i := 3) (N := some 85) (v := ?_) (a' := ?_) #[true, true, true, true, true, true, true, true, false, false, false, false, false, false, false, false, false, false, false, false, false, false] rfl rfl (take_ofW HT_.out HW_.out (by kernel_rfl)) (fun _ _ _ h => h) (Or.inl ⟨by rfl, ?_⟩) hHeld ?_ ?_
                                                            rotate_left
                                                            · rintro w' ⟨s0, s1, s2, s3, s4⟩
                                                              go_simp
                                                              with_reducible rfl
                                                            rotate_left
                                                            · simp only [Act.put, List.setIfInBounds_toArray, List.set_cons_zero, List.set_cons_succ, i64_w, i32_w]
                                                              rfl
                                                            refine take_ (i := 8) (N := some 90) (v := ?_) (a' := ?_) #[true, true, true, true, true, true, true, true, true, false, false, false, false, false, false, false, false, false, false, false, false, false] rfl rfl (take_ofW HT_.out HW_.out (by kernel_rfl)) (fun _ _ _ h => h) (Or.inl ⟨by rfl, ?_⟩) hHeld ?_ ?_
                                                            rotate_left
                                                            · rintro w' ⟨s0, s1, s2, s3, s4⟩
                                                              go_simp
                                                              with_reducible rfl
                                                            rotate_left
                                                            · simp only [Act.put, List.setIfInBounds_toArray, List.set_cons_zero, List.set_cons_succ, i64_w, i32_w]
                                                              rfl
                                                            refine pure_ (i := 9) (N := some 91) (v := ?_) (a' := ?_) #[true, true, true, true, true, true, true, true, true, true, false, false, false, false, false, false, false, false, false, false, false, false] rfl rfl (any_of HT_.out (by kernel_rfl)) (fun _ _ _ h => h) (Or.inl ⟨by rfl, ?_⟩) ?_ ?_
                                                            rotate_left
                                                            · intro w'
                                                              go_simp
                                                              with_reducible rfl
                                                            rotate_left
                                                            · simp only [Act.put, List.setIfInBounds_toArray, List.set_cons_zero, List.set_cons_succ, i64_w, i32_w]
                                                              rfl
                                                            refine take_ (i := 10) (N := some 92) (v := ?_) (a' := ?_) #[true, true, true, true, true, true, true, true, true, true, true, false, false, false, false, false, false, false, false, false, false, false] rfl rfl (take_ofW HT_.out HW_.out (by kernel_rfl)) (fun _ _ _ h => h) (Or.inl ⟨by rfl, ?_⟩) hHeld ?_ ?_
                                                            rotate_left
                                                            · rintro w' ⟨s0, s1, s2, s3, s4⟩
                                                              go_simp
                                                              with_reducible rfl
                                                            rotate_left
                                                            · simp only [Act.put, List.setIfInBounds_toArray, List.set_cons_zero, List.set_cons_succ, i64_w, i32_w]
                                                              rfl
                                                            refine one_ (i := 11) (N := some 93) #[true, true, true, true, true, true, true, true, true, true, true, true, false, false, false, false, false, false, false, false, false, false] rfl rfl (one_of HT_.out (by kernel_rfl)) (by decide) (fun K hK => ?_)
                                                            refine goes_ Try.func25 (by kernel_rfl) rfl #[.agg #[.int .i64 t208, .slice Ao57 t209.length co57], .agg #[.int .i64 ((rd_T40 l0 (rd x8_4 x11_31)).f0), .slice A218_1 ((rd_T40 l0 (rd x8_4 x11_31)).f1).length c218_1]] (by rfl) rfl rfl (by (try simp only [List.map_toArray, List.map_cons, List.map_nil]); first | done | rfl | (simp only [List.length_drop, List.length_take]; rfl)) ?_
                                                            with_reducible refine (thrumref21_One.calls t208 _ _ t209 ((rd_T40 l0 (rd x8_4 x11_31)).f0) _ _ ((rd_T40 l0 (rd x8_4 x11_31)).f1) true _ ?side1 ?side2 ?side3 ?side4 A43.out).mono ?_
                                                            (case side1 => repeat (first | exact (Kd.V_reads' HO211.out).2.2 | (with_reducible refine Kd.C_alloc ?_ _) | (with_reducible refine Kd.C_drewN ?_ _) | (with_reducible refine Kd.C_drew ?_)))
                                                            (case side2 => exact (Kd.V_reads' HO211.out).2.1)
                                                            (case side3 => repeat (first | exact (Kd.C_below HR218_1.out HB.out) | (with_reducible refine Kd.C_alloc ?_ _) | (with_reducible refine Kd.C_drewN ?_ _) | (with_reducible refine Kd.C_drew ?_)))
                                                            (case side4 => exact HC218_1.out)
                                                            rintro e w61 ⟨rfl, hb⟩
                                                            have HS2_ := (hb.cell (World.block_lt_of_cell? _ _ (hHeld.2.2.1))).trans (hHeld.2.2.1)
                                                            refine ⟨_, rfl, ?_⟩
                                                            have n0_ := Aside0.mk (Kd.N_below (by (with_reducible repeat (first | apply Kd.N_alloc | apply Kd.N_drewN | apply Kd.N_drew)); exact HO_6.out) hb)
                                                            have n1_ := Aside0.mk (Kd.R_below (by (with_reducible repeat (first | apply Kd.R_alloc | apply Kd.R_drewN | apply Kd.R_drew)); exact HO_8.out) hb)
                                                            have n2_ := Aside0.mk (Kd.V_below (by (with_reducible repeat (first | apply Kd.V_alloc | apply Kd.V_drewN | apply Kd.V_drew)); exact HO211.out) hb)
                                                            have n3_ := Aside0.mk (Kd.N_below (by (with_reducible repeat (first | apply Kd.N_alloc | apply Kd.N_drewN | apply Kd.N_drew)); exact HO214.out) hb)
                                                            have n4_ := Aside0.mk (blk_below (g := gb216) (o := .cells #[.int .i64 t208, .slice Ao57 t209.length co57] 40 (0, 0)) (by (with_reducible repeat (first | refine blk_drewN ?_ _ | refine blk_drew ?_ | refine blk_alloc ?_ _)); exact BK216.out) hb)
                                                            have n5_ := Aside0.mk (below_step (by repeat (first | (with_reducible first | exact HB.out | apply below_alloc | apply pw_below_drewN | apply below_drew1 | refine below_set ?_ GE216.out) | exact HB.out)) hb)
                                                            clear HO_6
                                                            clear HO_8
                                                            clear HO211
                                                            clear HO214
                                                            clear BK216
                                                            clear HB
                                                            have HO_6 := n0_
                                                            have HO_8 := n1_
                                                            have HO211 := n2_
                                                            have HO214 := n3_
                                                            have BK216 := n4_
                                                            have HB := n5_
                                                            clear n0_ n1_ n2_ n3_ n4_ n5_
                                                            (try clear hb)
                                                            (try clear hb2)
                                                            (try clear hk)
                                                            (try clear hi)
                                                            obtain ⟨Ao62, co62, eo62⟩ := Kd.N_slice HO214.out
                                                            (first | subst eo62 | (injection eo62 with f1_ f2_ f3_; have f4_ := f1_.symm; have f5_ := f3_.symm; clear f1_ f2_ f3_; subst f4_; subst f5_))
                                                            refine hK.out _ _ ⟨(blk_cell BK216.out 0).trans rfl, (blk_cell BK216.out 1).trans rfl, HS2_, ((HB.out.cell (World.block_lt_of_cell? w _ hw218_0)).trans hw218_0), ((HB.out.cell (World.block_lt_of_cell? w _ hw218_1)).trans hw218_1)⟩ (fun hHeld => ?_)
                                                            clear hK K
                                                            refine norm_ (a' := ?_) ?_ ?_
                                                            rotate_left
                                                            · show Act.put _ (some 93) _ = _
                                                              simp only [Act.put, List.setIfInBounds_toArray, List.set_cons_zero, List.set_cons_succ, i64_w, i32_w]
                                                              rfl
                                                            refine pure_ (i := 12) (N := some 94) (v := ?_) (a' := ?_) #[true, true, true, true, true, true, true, true, true, true, true, true, true, false, false, false, false, false, false, false, false, false] rfl rfl (any_of HT_.out (by kernel_rfl)) (fun _ _ _ h => h) (Or.inl ⟨by rfl, ?_⟩) ?_ ?_
                                                            rotate_left
                                                            · intro w'
                                                              go_simp
                                                              with_reducible rfl
                                                            rotate_left
                                                            · simp only [Act.put, List.setIfInBounds_toArray, List.set_cons_zero, List.set_cons_succ, i64_w, i32_w]
                                                              rfl
                                                            refine pure_ (i := 13) (N := some 95) (v := ?_) (a' := ?_) #[true, true, true, true, true, true, true, true, true, true, true, true, true, true, false, false, false, false, false, false, false, false] rfl rfl (any_of HT_.out (by kernel_rfl)) (fun _ _ _ h => h) (Or.inl ⟨by rfl, ?_⟩) ?_ ?_
                                                            rotate_left
                                                            · intro w'
                                                              go_simp
                                                              with_reducible rfl
                                                            rotate_left
                                                            · simp only [Act.put, List.setIfInBounds_toArray, List.set_cons_zero, List.set_cons_succ, i64_w, i32_w]
                                                              rfl
                                                            refine pure_ (i := 14) (N := some 96) (v := ?_) (a' := ?_) #[true, true, true, true, true, true, true, true, true, true, true, true, true, true, true, false, false, false, false, false, false, false] rfl rfl (any_of HT_.out (by kernel_rfl)) (fun _ _ _ h => h) (Or.inl ⟨by rfl, ?_⟩) ?_ ?_
                                                            rotate_left
                                                            · intro w'
                                                              go_simp
                                                              with_reducible rfl
                                                            rotate_left
                                                            · simp only [Act.put, List.setIfInBounds_toArray, List.set_cons_zero, List.set_cons_succ, i64_w, i32_w]
                                                              rfl
                                                            refine pure_ (i := 15) (N := some 97) (v := ?_) (a' := ?_) #[true, true, true, true, true, true, true, true, true, true, true, true, true, true, true, true, false, false, false, false, false, false] rfl rfl (any_of HT_.out (by kernel_rfl)) (fun _ _ _ h => h) (Or.inl ⟨by rfl, ?_⟩) ?_ ?_
                                                            rotate_left
                                                            · intro w'
                                                              go_simp
                                                              with_reducible rfl
                                                            rotate_left
                                                            · simp only [Act.put, List.setIfInBounds_toArray, List.set_cons_zero, List.set_cons_succ, i64_w, i32_w]
                                                              rfl
                                                            refine pure_ (i := 16) (N := some 98) (v := ?_) (a' := ?_) #[true, true, true, true, true, true, true, true, true, true, true, true, true, true, true, true, true, false, false, false, false, false] rfl rfl (any_of HT_.out (by kernel_rfl)) (fun _ _ _ h => h) (Or.inl ⟨by rfl, ?_⟩) ?_ ?_
                                                            rotate_left
                                                            · intro w'
                                                              go_simp
                                                              with_reducible rfl
                                                            rotate_left
                                                            · simp only [Act.put, List.setIfInBounds_toArray, List.set_cons_zero, List.set_cons_succ, i64_w, i32_w]
                                                              rfl
                                                            refine pure_ (i := 17) (N := some 99) (v := ?_) (a' := ?_) #[true, true, true, true, true, true, true, true, true, true, true, true, true, true, true, true, true, true, false, false, false, false] rfl rfl (any_of HT_.out (by kernel_rfl)) (fun _ _ _ h => h) (Or.inl ⟨by rfl, ?_⟩) ?_ ?_
                                                            rotate_left
                                                            · intro w'
                                                              go_simp
                                                              with_reducible rfl
                                                            rotate_left
                                                            · simp only [Act.put, List.setIfInBounds_toArray, List.set_cons_zero, List.set_cons_succ, i64_w, i32_w]
                                                              rfl
                                                            refine pure_ (i := 18) (N := some 100) (v := ?_) (a' := ?_) #[true, true, true, true, true, true, true, true, true, true, true, true, true, true, true, true, true, true, true, false, false, false] rfl rfl (any_of HT_.out (by kernel_rfl)) (fun _ _ _ h => h) (Or.inl ⟨by rfl, ?_⟩) ?_ ?_
                                                            rotate_left
                                                            · intro w'
                                                              go_simp
                                                              with_reducible rfl
                                                            rotate_left
                                                            · simp only [Act.put, List.setIfInBounds_toArray, List.set_cons_zero, List.set_cons_succ, i64_w, i32_w]
                                                              rfl
                                                            refine pure_ (i := 19) (N := some 101) (v := ?_) (a' := ?_) #[true, true, true, true, true, true, true, true, true, true, true, true, true, true, true, true, true, true, true, true, false, false] rfl rfl (any_of HT_.out (by kernel_rfl)) (fun _ _ _ h => h) (Or.inl ⟨by rfl, ?_⟩) ?_ ?_
                                                            rotate_left
                                                            · intro w'
                                                              go_simp
                                                              with_reducible rfl
                                                            rotate_left
                                                            · simp only [Act.put, List.setIfInBounds_toArray, List.set_cons_zero, List.set_cons_succ, i64_w, i32_w]
                                                              rfl
                                                            refine pure_ (i := 20) (N := some 102) (v := ?_) (a' := ?_) #[true, true, true, true, true, true, true, true, true, true, true, true, true, true, true, true, true, true, true, true, true, false] rfl rfl (any_of HT_.out (by kernel_rfl)) (fun _ _ _ h => h) (Or.inl ⟨by rfl, ?_⟩) ?_ ?_
                                                            rotate_left
                                                            · intro w'
                                                              go_simp
                                                              with_reducible rfl
                                                            rotate_left
                                                            · simp only [Act.put, List.setIfInBounds_toArray, List.set_cons_zero, List.set_cons_succ, i64_w, i32_w]
                                                              rfl
                                                            refine pure_ (i := 21) (N := some 103) (v := ?_) (a' := ?_) #[true, true, true, true, true, true, true, true, true, true, true, true, true, true, true, true, true, true, true, true, true, true] rfl rfl (any_of HT_.out (by kernel_rfl)) (fun _ _ _ h => h) (Or.inl ⟨by rfl, ?_⟩) ?_ ?_
                                                            rotate_left
                                                            · intro w'
                                                              go_simp
                                                              with_reducible rfl
                                                            rotate_left
                                                            · simp only [Act.put, List.setIfInBounds_toArray, List.set_cons_zero, List.set_cons_succ, i64_w, i32_w]
                                                              rfl
                                                            refine done_ (done_of HT_.out (by kernel_rfl)) ?_
                                                            try go_wp2
                                                            have n0_ := Aside0.mk (Kd.N_drew HO_6.out)
                                                            have n1_ := Aside0.mk (Kd.R_drew HO_8.out)
                                                            have n2_ := Aside0.mk (Kd.V_drew HO211.out)
                                                            have n3_ := Aside0.mk (Kd.N_drew HO214.out)
                                                            have n4_ := Aside0.mk (blk_drew BK216.out)
                                                            have n5_ := Aside0.mk (below_drew1 HB.out)
                                                            clear HO_6
                                                            clear HO_8
                                                            clear HO211
                                                            clear HO214
                                                            clear BK216
                                                            clear HB
                                                            have HO_6 := n0_
                                                            have HO_8 := n1_
                                                            have HO211 := n2_
                                                            have HO214 := n3_
                                                            have BK216 := n4_
                                                            have HB := n5_
                                                            clear n0_ n1_ n2_ n3_ n4_ n5_
                                                            have q64 : (x11_31 : Int) ≤ ((x8_4.length : Int) : Int) := of_decide_eq_true (by first | (with_reducible assumption) | assumption)
                                                            obtain ⟨i064, hi064, _, hsz64, _⟩ := info_parts info3
                                                            have hroom64 : x8_4.length ≤ co60 := (Kd.R_reads' HO_8.out).2.1
                                                            have hC64 : Kd.F (Kd.int .i64) _ _ (some ad217) x8_4.length x8_4 := (Kd.V_at (base := w.heap.size) (Kd.R_V (Kd.R_types (Kd.R_apart' (Kd.R_apart' (HO_8.out) (Kd.N_typed HO_6.out) (by decide)) (Kd.N_typed HO214.out) (by decide)) BK216.out (by decide)))).2.2
                                                            have hcut64 := cut_to (P := Try.prog) 34 3 .i64 Try.underlying34 hi064 (some ad217) x8_4.length co60 x11_31 (of_decide_eq_true (by first | (with_reducible assumption) | assumption)) q64 hroom64
                                                            have hr64 := Kd.F_take (m := (x11_31 : Int).toNat) hC64 (by omega)
                                                            have hy64 : y220.length = (x11_31 : Int).toNat := (by rw [Ny220.out, List.length_take]; omega)
                                                            rw [← Ny220.out] at hr64
                                                            rw [← hy64] at hcut64
                                                            have HO224 := Aside0.mk (show Kd.V (Kd.int .i64) 3 _ w.heap.size _ (.slice (some ad217) y220.length co60) y220 from Kd.V_mk (by omega) hr64)
                                                            have HC224 := Aside0.mk (show y220.length ≤ co60 from by omega)
                                                            clear hr64 hC64 hroom64 hi064 hsz64
                                                            have KY64 := Aside0.mk hy64
                                                            clear hy64
                                                            replace q64 := eq_true q64; (try (have q64s := q64; rw [List.length_drop] at q64s)); (try (have q64t := q64; rw [List.length_take] at q64t))
                                                            have q65 : ((ji49) : Int) ≤ ((x8_4.length : Int) : Int) := of_decide_eq_true (by first | (with_reducible assumption) | assumption)
                                                            obtain ⟨i065, hi065, _, hsz65, _⟩ := info_parts info3
                                                            have hroom65 : x8_4.length ≤ co60 := (Kd.R_reads' HO_8.out).2.1
                                                            have hC65 : Kd.F (Kd.int .i64) _ _ (some ad217) x8_4.length x8_4 := (Kd.V_at (base := w.heap.size) (Kd.R_V (Kd.R_types (Kd.R_apart' (Kd.R_apart' (HO_8.out) (Kd.N_typed HO_6.out) (by decide)) (Kd.N_typed HO214.out) (by decide)) BK216.out (by decide)))).2.2
                                                            have q065 : (0 : Int) ≤ ((ji49) : Int) := of_decide_eq_true (by first | (with_reducible assumption) | assumption)
                                                            have hcut65 := cut_from (P := Try.prog) 34 3 .i64 Try.underlying34 hi065 1 hsz65 (some ad217) x8_4.length co60 (ji49) q065 q65
                                                            have hr65 := Kd.F_cut (m := ((ji49) : Int).toNat) (c := co60) hC65 (by omega) hroom65
                                                            obtain ⟨A65, hA65⟩ : ∃ A1, A1 = (if co60 = ((ji49) : Int).toNat then (some ad217) else ((some ad217) : Option Addr).map (·.add (((ji49) : Int).toNat * 1))) := ⟨_, rfl⟩
                                                            obtain ⟨c65, hc65⟩ : ∃ c1, c1 = co60 - ((ji49) : Int).toNat := ⟨_, rfl⟩
                                                            have hy65 : y228.length = x8_4.length - ((ji49) : Int).toNat := (by rw [Ny228.out, List.length_drop] <;> omega)
                                                            rw [show (x8_4).drop ((ji49) : Int).toNat = y228 from Ny228.out.symm] at hr65
                                                            replace hr65 : Kd.F (Kd.int .i64) _ _ A65 y228.length y228 := (by rw [hA65]; exact hr65)
                                                            rw [← hy65, ← hA65, ← hc65] at hcut65
                                                            have HO232 := Aside0.mk (show Kd.V (Kd.int .i64) 3 _ w.heap.size _ (.slice A65 y228.length c65) y228 from Kd.V_mk (by rw [hy65, hc65]; exact Nat.sub_le_sub_right hroom65 _) hr65)
                                                            have HC232 := Aside0.mk (show y228.length ≤ c65 from by rw [hy65, hc65]; exact Nat.sub_le_sub_right hroom65 _)
                                                            clear hr65 hC65 hroom65 hi065 hsz65 hc65
                                                            have KY65 := Aside0.mk hy65
                                                            have KA65 := Aside0.mk hA65
                                                            clear hy65 hA65
                                                            replace q65 := eq_true q65; (try (have q65s := q65; rw [List.length_drop] at q65s)); (try (have q65t := q65; rw [List.length_take] at q65t))
                                                            refine start_ (n := 10) (S := fun w' => True) (ds := []) #[false, false, false, false, false, false, false, false, false, false] (by kernel_rfl) rfl rfl trivial (fun hHeld => ?_); refine with_tabW thrumlaw21_NetGives.tab25 thrumlaw21_NetGives.bits25 (fun HT_ HW_ => ?_)
                                                            generalize w61.drew = w63 at HO_6 HO_8 HO211 HO214 BK216 HB HO224 HO232 hHeld ⊢
                                                            refine pure_ (i := 0) (N := some 105) (v := ?_) (a' := ?_) #[true, false, false, false, false, false, false, false, false, false] rfl rfl (any_of HT_.out (by kernel_rfl)) (fun _ _ _ h => h) (Or.inl ⟨by rfl, ?_⟩) ?_ ?_
                                                            rotate_left
                                                            · intro w'
                                                              go_simp
                                                              with_reducible rfl
                                                            rotate_left
                                                            · simp only [Act.put, List.setIfInBounds_toArray, List.set_cons_zero, List.set_cons_succ, i64_w, i32_w]
                                                              rfl
                                                            refine pure_ (i := 1) (N := some 106) (v := ?_) (a' := ?_) #[true, true, false, false, false, false, false, false, false, false] rfl rfl (any_of HT_.out (by kernel_rfl)) (fun _ _ _ h => h) (Or.inl ⟨by rfl, ?_⟩) ?_ ?_
                                                            rotate_left
                                                            · intro w'
                                                              go_simp
                                                              with_reducible rfl
                                                            rotate_left
                                                            · simp only [Act.put, List.setIfInBounds_toArray, List.set_cons_zero, List.set_cons_succ, i64_w, i32_w]
                                                              rfl
                                                            refine pure_ (i := 2) (N := some 107) (v := ?_) (a' := ?_) #[true, true, true, false, false, false, false, false, false, false] rfl rfl (any_of HT_.out (by kernel_rfl)) (fun _ _ _ h => h) (Or.inl ⟨by rfl, ?_⟩) ?_ ?_
                                                            rotate_left
                                                            · intro w'
                                                              go_simp
                                                              with_reducible rfl
                                                            rotate_left
                                                            · simp only [Act.put, List.setIfInBounds_toArray, List.set_cons_zero, List.set_cons_succ, i64_w, i32_w]
                                                              rfl
                                                            refine pure_ (i := 4) (N := some 109) (v := ?_) (a' := ?_) #[true, true, true, false, true, false, false, false, false, false] rfl rfl (any_of HT_.out (by kernel_rfl)) (fun _ _ _ h => h) (Or.inl ⟨by rfl, ?_⟩) ?_ ?_
                                                            rotate_left
                                                            · intro w'
                                                              go_simp
                                                              with_reducible rfl
                                                            rotate_left
                                                            · simp only [Act.put, List.setIfInBounds_toArray, List.set_cons_zero, List.set_cons_succ, i64_w, i32_w]
                                                              rfl
                                                            refine pure_ (i := 5) (N := some 110) (v := ?_) (a' := ?_) #[true, true, true, false, true, true, false, false, false, false] rfl rfl (any_of HT_.out (by kernel_rfl)) (fun _ _ _ h => h) (Or.inl ⟨by rfl, ?_⟩) ?_ ?_
                                                            rotate_left
                                                            · intro w'
                                                              go_simp
                                                              with_reducible rfl
                                                            rotate_left
                                                            · simp only [Act.put, List.setIfInBounds_toArray, List.set_cons_zero, List.set_cons_succ, i64_w, i32_w]
                                                              rfl
                                                            refine pure_ (i := 6) (N := some 111) (v := ?_) (a' := ?_) #[true, true, true, false, true, true, true, false, false, false] rfl rfl (any_of HT_.out (by kernel_rfl)) (fun _ _ _ h => h) (Or.inl ⟨by rfl, ?_⟩) ?_ ?_
                                                            rotate_left
                                                            · intro w'
                                                              go_simp
                                                              with_reducible rfl
                                                            rotate_left
                                                            · simp only [Act.put, List.setIfInBounds_toArray, List.set_cons_zero, List.set_cons_succ, i64_w, i32_w]
                                                              rfl
                                                            refine pure_ (i := 7) (N := some 112) (v := ?_) (a' := ?_) #[true, true, true, false, true, true, true, true, false, false] rfl rfl (any_of HT_.out (by kernel_rfl)) (fun _ _ _ h => h) (Or.inl ⟨by rfl, ?_⟩) ?_ ?_
                                                            rotate_left
                                                            · intro w'
                                                              go_simp
                                                              with_reducible rfl
                                                            rotate_left
                                                            · simp only [Act.put, List.setIfInBounds_toArray, List.set_cons_zero, List.set_cons_succ, i64_w, i32_w]
                                                              rfl
                                                            refine one_ (i := 3) (N := some 108) #[true, true, true, true, true, true, true, true, false, false] rfl rfl (one_of HT_.out (by kernel_rfl)) (by decide) (fun K hK => ?_)
                                                            refine Kd.R_append_rows_step (Kd.int .i64) (w0 := w) w.heap.size (by rfl) (.const (.slice none 0 0)) (.tmp 107) 34 3 (.int .i64 0) 8 rfl Try.underlying34 info3 rfl (by decide) (by omega) (.slice none 0 0) ([] : List Int) y220 _ _ _ (fun k_ => some k_ ≠ (.slice (some ad217) x8_4.length co60 : Value).ownBlock) (fun _ => False) rfl rfl ?aO ?aR (fun _ _ h => h) (fun _ h => h.elim) ?aF ?aB ?aS ?aL ?_
                                                            (case aR => repeat (first | exact (Kd.V_reads' HO224.out).2.2 | (with_reducible refine Kd.C_alloc ?_ _) | (with_reducible refine Kd.C_drewN ?_ _) | (with_reducible refine Kd.C_drew ?_)))
                                                            (case aB => exact (by repeat (first | (with_reducible first | exact HB.out | apply below_alloc | apply pw_below_drewN | apply below_drew1 | refine below_set ?_ GE216.out) | exact HB.out)))
                                                            (case aF => exact (fun k_ hk => Kd.fresh' (Kd.R_lt (by (with_reducible repeat (first | apply Kd.R_alloc | apply Kd.R_drewN | apply Kd.R_drew)); exact HO_8.out)) k_ hk))
                                                            (case aO => exact ((Kd.R_nil _ _ _ _ (fun k_ => some k_ ≠ (.slice (some ad217) x8_4.length co60 : Value).ownBlock))))
                                                            (case aS => exact (below_size (by repeat (first | (with_reducible first | exact HB.out | apply below_alloc | apply pw_below_drewN | apply below_drew1 | refine below_set ?_ GE216.out) | exact HB.out))))
                                                            (case aL => have := LMc48.out; omega)
                                                            intro v226 w66 ho hb hg hat
                                                            rw [← Ny225.out] at ho
                                                            have n0_ := Aside0.mk (Kd.N_afterv (Kd.N_apart_nil (by (with_reducible repeat (first | apply Kd.N_alloc | apply Kd.N_drewN | apply Kd.N_drew)); exact HO_6.out)) hg hat)
                                                            have n1_ := Aside0.mk (Kd.R_after (Kd.R_apart_nil (by (with_reducible repeat (first | apply Kd.R_alloc | apply Kd.R_drewN | apply Kd.R_drew)); exact HO_8.out)) hg hat)
                                                            have n2_ := Aside0.mk (Kd.V_afterv (Kd.V_apart_nil (by (with_reducible repeat (first | apply Kd.V_alloc | apply Kd.V_drewN | apply Kd.V_drew)); exact HO211.out)) hg hat)
                                                            have n3_ := Aside0.mk (Kd.N_afterv (Kd.N_apart_nil (by (with_reducible repeat (first | apply Kd.N_alloc | apply Kd.N_drewN | apply Kd.N_drew)); exact HO214.out)) hg hat)
                                                            have n4_ := Aside0.mk (blk_grown (g := gb216) (o := .cells #[.int .i64 t208, .slice Ao57 t209.length co57] 40 (0, 0)) (by (with_reducible repeat (first | refine blk_drewN ?_ _ | refine blk_drew ?_ | refine blk_alloc ?_ _)); exact BK216.out) hg (by simp [Value.ownBlock]))
                                                            have n5_ := Aside0.mk (Kd.V_afterv (Kd.V_apart_nil (by (with_reducible repeat (first | apply Kd.V_alloc | apply Kd.V_drewN | apply Kd.V_drew)); exact HO224.out)) hg hat)
                                                            have n6_ := Aside0.mk (Kd.V_afterv (Kd.V_apart_nil (by (with_reducible repeat (first | apply Kd.V_alloc | apply Kd.V_drewN | apply Kd.V_drew)); exact HO232.out)) hg hat)
                                                            have n7_ := Aside0.mk (hb)
                                                            have n8_ := Aside0.mk (ho)
                                                            clear HO_6
                                                            clear HO_8
                                                            clear HO211
                                                            clear HO214
                                                            clear BK216
                                                            clear HO224
                                                            clear HO232
                                                            clear HB
                                                            have HO_6 := n0_
                                                            have HO_8 := n1_
                                                            have HO211 := n2_
                                                            have HO214 := n3_
                                                            have BK216 := n4_
                                                            have HO224 := n5_
                                                            have HO232 := n6_
                                                            have HB := n7_
                                                            have HO227 := n8_
                                                            clear n0_ n1_ n2_ n3_ n4_ n5_ n6_ n7_ n8_
                                                            clear ho hb hg hat
                                                            refine hK.out _ _ trivial (fun hHeld => ?_)
                                                            clear hK K
                                                            refine norm_ (a' := ?_) ?_ ?_
                                                            rotate_left
                                                            · show Act.put _ (some 108) _ = _
                                                              simp only [Act.put, List.setIfInBounds_toArray, List.set_cons_zero, List.set_cons_succ, i64_w, i32_w]
                                                              rfl
                                                            refine one_ (i := 8) (N := some 113) #[true, true, true, true, true, true, true, true, true, false] rfl rfl (one_of HT_.out (by kernel_rfl)) (by decide) (fun K hK => ?_)
                                                            refine Kd.R_append_rows_step (Kd.int .i64) (w0 := w) w.heap.size (by rfl) (.tmp 108) (.tmp 112) 34 3 (.int .i64 0) 8 rfl Try.underlying34 info3 rfl (by decide) (by omega) v226 y225 y228 _ _ _ (fun k_ => some k_ ≠ (.slice (some ad217) x8_4.length co60 : Value).ownBlock) (fun _ => False) rfl rfl ?aO ?aR (fun _ _ h => h) (fun _ h => h.elim) ?aF ?aB ?aS ?aL ?_
                                                            (case aR => repeat (first | exact (Kd.V_reads' HO232.out).2.2 | (with_reducible refine Kd.C_alloc ?_ _) | (with_reducible refine Kd.C_drewN ?_ _) | (with_reducible refine Kd.C_drew ?_)))
                                                            (case aB => exact (by repeat (first | (with_reducible first | exact HB.out | apply below_alloc | apply pw_below_drewN | apply below_drew1 | refine below_set ?_ GE216.out) | exact HB.out)))
                                                            (case aF => exact (fun k_ hk => Kd.fresh' (Kd.R_lt (by (with_reducible repeat (first | apply Kd.R_alloc | apply Kd.R_drewN | apply Kd.R_drew)); exact HO_8.out)) k_ hk))
                                                            (case aO => exact (by (with_reducible repeat (first | apply Kd.R_alloc | apply Kd.R_drewN | apply Kd.R_drew)); exact HO227.out))
                                                            (case aS => exact (below_size (by repeat (first | (with_reducible first | exact HB.out | apply below_alloc | apply pw_below_drewN | apply below_drew1 | refine below_set ?_ GE216.out) | exact HB.out))))
                                                            (case aL => have := LMc52.out; omega)
                                                            intro v234 w67 ho hb hg hat
                                                            rw [← Ny233.out] at ho
                                                            have n0_ := Aside0.mk (Kd.N_afterv (ok := (fun k_ => some k_ ≠ (.slice (some ad217) x8_4.length co60 : Value).ownBlock ∧ some k_ ≠ (.slice Ao62 t212.length co62 : Value).ownBlock ∧ k_ ≠ gb216)) (by (with_reducible repeat (first | apply Kd.N_alloc | apply Kd.N_drewN | apply Kd.N_drew)); exact HO_6.out) hg hat)
                                                            have n1_ := Aside0.mk (Kd.R_after (ok := (fun _ => True)) (by (with_reducible repeat (first | apply Kd.R_alloc | apply Kd.R_drewN | apply Kd.R_drew)); exact HO_8.out) hg hat)
                                                            have n2_ := Aside0.mk (Kd.V_afterv (ok := (fun k_ => some k_ ≠ (.slice Ao53 x6_4.length co53 : Value).ownBlock ∧ some k_ ≠ (.slice (some ad217) x8_4.length co60 : Value).ownBlock ∧ some k_ ≠ (.slice Ao62 t212.length co62 : Value).ownBlock ∧ k_ ≠ gb216)) (by (with_reducible repeat (first | apply Kd.V_alloc | apply Kd.V_drewN | apply Kd.V_drew)); exact HO211.out) hg hat)
                                                            have n3_ := Aside0.mk (Kd.N_afterv (ok := (fun k_ => some k_ ≠ (.slice Ao53 x6_4.length co53 : Value).ownBlock ∧ some k_ ≠ (.slice (some ad217) x8_4.length co60 : Value).ownBlock ∧ k_ ≠ gb216)) (by (with_reducible repeat (first | apply Kd.N_alloc | apply Kd.N_drewN | apply Kd.N_drew)); exact HO214.out) hg hat)
                                                            have n4_ := Aside0.mk (blk_grown (g := gb216) (o := .cells #[.int .i64 t208, .slice Ao57 t209.length co57] 40 (0, 0)) (by (with_reducible repeat (first | refine blk_drewN ?_ _ | refine blk_drew ?_ | refine blk_alloc ?_ _)); exact BK216.out) hg (Kd.R_ne HO227.out BK216.out (by decide)))
                                                            have n5_ := Aside0.mk (Kd.V_afterv (ok := (fun k_ => some k_ ≠ (.slice Ao53 x6_4.length co53 : Value).ownBlock ∧ some k_ ≠ (.slice Ao62 t212.length co62 : Value).ownBlock ∧ k_ ≠ gb216)) (by (with_reducible repeat (first | apply Kd.V_alloc | apply Kd.V_drewN | apply Kd.V_drew)); exact Kd.V_mono HO224.out (fun _ hk => ⟨⟨hk.1.1.1.2, ⟨hk.1.1.2, hk.1.2⟩⟩, hk.2⟩)) hg hat)
                                                            have n6_ := Aside0.mk (Kd.V_afterv (ok := (fun k_ => some k_ ≠ (.slice Ao53 x6_4.length co53 : Value).ownBlock ∧ some k_ ≠ (.slice Ao62 t212.length co62 : Value).ownBlock ∧ k_ ≠ gb216)) (by (with_reducible repeat (first | apply Kd.V_alloc | apply Kd.V_drewN | apply Kd.V_drew)); exact Kd.V_mono HO232.out (fun _ hk => ⟨⟨hk.1.1.1.2, ⟨hk.1.1.2, hk.1.2⟩⟩, hk.2⟩)) hg hat)
                                                            have n7_ := Aside0.mk (hb)
                                                            have n8_ := Aside0.mk (ho)
                                                            clear HO_6
                                                            clear HO_8
                                                            clear HO211
                                                            clear HO214
                                                            clear BK216
                                                            clear HO224
                                                            clear HO232
                                                            clear HB
                                                            clear HO227
                                                            have HO_6 := n0_
                                                            have HO_8 := n1_
                                                            have HO211 := n2_
                                                            have HO214 := n3_
                                                            have BK216 := n4_
                                                            have HO224 := n5_
                                                            have HO232 := n6_
                                                            have HB := n7_
                                                            have HO235 := n8_
                                                            clear n0_ n1_ n2_ n3_ n4_ n5_ n6_ n7_ n8_
                                                            clear ho hb hg hat
                                                            refine hK.out _ _ trivial (fun hHeld => ?_)
                                                            clear hK K
                                                            refine norm_ (a' := ?_) ?_ ?_
                                                            rotate_left
                                                            · show Act.put _ (some 113) _ = _
                                                              simp only [Act.put, List.setIfInBounds_toArray, List.set_cons_zero, List.set_cons_succ, i64_w, i32_w]
                                                              rfl
                                                            refine pure_ (i := 9) (N := some 8) (v := ?_) (a' := ?_) #[true, true, true, true, true, true, true, true, true, true] rfl rfl (any_of HT_.out (by kernel_rfl)) (fun _ _ _ h => h) (Or.inl ⟨by rfl, ?_⟩) ?_ ?_
                                                            rotate_left
                                                            · intro w'
                                                              go_simp
                                                              with_reducible rfl
                                                            rotate_left
                                                            · simp only [Act.put, List.setIfInBounds_toArray, List.set_cons_zero, List.set_cons_succ, i64_w, i32_w]
                                                              rfl
                                                            refine done_ (done_of HT_.out (by kernel_rfl)) ?_
                                                            try go_wp2
                                                            go_roundg kj31
                                                            case measure => have := HJ4.out; have := HJ12.out; have := HK3.out; have := HK4.out; have := HJ31.out; omega
                                                            case rel => exact ⟨(t212), (y233), (wrap64 (x55_4 + 1)), (by first | rfl | (simp; done) | (simp [*]; done)), H', ⟨by have := HJ4.out; have := HJ12.out; have := HK3.out; have := HK4.out; have := HJ31.out; omega⟩, ⟨by (try simp only [hl8_3]); (with_reducible repeat (first | apply Kd.N_alloc | apply Kd.N_drewN | apply Kd.N_drew)); exact Kd.N_mono HO214.out (fun _ hk => hk.2)⟩, ⟨by (try simp only [hl8_3]); (with_reducible repeat (first | apply Kd.R_alloc | apply Kd.R_drewN | apply Kd.R_drew)); exact Kd.R_mono HO235.out (fun _ hk => trivial)⟩, ⟨by repeat (first | (with_reducible first | exact HB.out | apply below_alloc | apply pw_below_drewN | apply below_drew1 | refine below_set ?_ GE216.out) | exact HB.out)⟩⟩
                                                          · rw [if_neg c52] at H
                                                            exact absurd H (by simp)
                                                        · rw [if_neg c51] at H
                                                          exact absurd H (by simp)
                                                      · rw [if_neg c50] at H
                                                        exact absurd H (by simp)
                                                    · rw [if_neg c48] at H
                                                      exact absurd H (by simp)
                                                  · rw [if_neg c47] at H
                                                    exact absurd H (by simp)
                                                · rw [if_neg c45] at H
                                                  have c45b0 : ((t212.length : Int) == (wrap64 ((x8_4.length : Int) - 1))) = false := beq_eq_false_iff_ne.mpr c45
                                                  have c45b1 : ((t212.length : Int) != (wrap64 ((x8_4.length : Int) - 1))) = true := bne_iff_ne.mpr c45
                                                  obtain rfl := Option.some.inj H
                                                  obtain ⟨Ao68, co68, eo68⟩ := Kd.N_slice HO_6.out
                                                  subst eo68
                                                  try go_wp2_with (first | ((with_reducible refine gate_callee (f := 24) rfl ?_); refine goesL_ (some 78) rfl rfl Try.func24 (by kernel_rfl) rfl #[.slice Ao68 x6_4.length co68, .int .i64 x11_31] rfl (by (try simp only [List.map_toArray, List.map_cons, List.map_nil]); first | done | rfl | (simp only [List.length_drop, List.length_take]; rfl)) ?_; (with_reducible refine (net_Give.calls kj31 _ _ x6_4 x11_31 t208 t209 t212 t215 _ ?side1 ?side2 A37.out).mono ?_); (case side1 => repeat (first | exact (Kd.N_reads' HO_6.out).2.2 | (with_reducible refine Kd.C_alloc ?_ _) | (with_reducible refine Kd.C_drewN ?_ _) | (with_reducible refine Kd.C_drew ?_))); (case side2 => exact (Kd.N_reads' HO_6.out).2.1); rintro e w69 ⟨v210, v213, rfl, ho0, ho1, hb⟩; refine ⟨_, rfl, ?_⟩; have n0_ := Aside0.mk (Kd.N_elder' (by (with_reducible repeat (first | apply Kd.N_alloc | apply Kd.N_drewN | apply Kd.N_drew)); exact HO_6.out) (Kd.N_base ho1) hb); have n1_ := Aside0.mk (Kd.R_below (by (with_reducible repeat (first | apply Kd.R_alloc | apply Kd.R_drewN | apply Kd.R_drew)); exact HO_8.out) hb); have n2_ := Aside0.mk (Kd.V_lower (Kd.V_mono (ok' := fun k_ => some k_ ≠ (v213 : Value).ownBlock ∧ some k_ ≠ (.slice Ao68 x6_4.length co68 : Value).ownBlock ∧ some k_ ≠ (u8 : Value).ownBlock) ho0 (fun k_ hk_ => ⟨hk_.2, (Kd.fresh' (Kd.N_lt (by (with_reducible repeat (first | apply Kd.N_alloc | apply Kd.N_drewN | apply Kd.N_drew)); exact HO_6.out)) k_ hk_.1), (Kd.fresh' (Kd.R_lt (by (with_reducible repeat (first | apply Kd.R_alloc | apply Kd.R_drewN | apply Kd.R_drew)); exact HO_8.out)) k_ hk_.1)⟩)) (below_size (by repeat (first | (with_reducible first | exact HB.out | apply below_alloc | apply pw_below_drewN | apply below_drew1) | exact HB.out)))); have n3_ := Aside0.mk (Kd.N_lower (Kd.N_mono (ok' := fun k_ => some k_ ≠ (.slice Ao68 x6_4.length co68 : Value).ownBlock ∧ some k_ ≠ (u8 : Value).ownBlock) ho1 (fun k_ hk_ => ⟨(Kd.fresh' (Kd.N_lt (by (with_reducible repeat (first | apply Kd.N_alloc | apply Kd.N_drewN | apply Kd.N_drew)); exact HO_6.out)) k_ hk_), (Kd.fresh' (Kd.R_lt (by (with_reducible repeat (first | apply Kd.R_alloc | apply Kd.R_drewN | apply Kd.R_drew)); exact HO_8.out)) k_ hk_)⟩)) (below_size (by repeat (first | (with_reducible first | exact HB.out | apply below_alloc | apply pw_below_drewN | apply below_drew1) | exact HB.out)))); have n4_ := Aside0.mk (below_step (by repeat (first | (with_reducible first | exact HB.out | apply below_alloc | apply pw_below_drewN | apply below_drew1) | exact HB.out)) hb); clear HO_6; clear HO_8; clear HB; have HO_6 := n0_; have HO_8 := n1_; have HO211 := n2_; have HO214 := n3_; have HB := n4_; clear n0_ n1_ n2_ n3_ n4_; (try clear hb); (try clear hb2); (try clear hk); (try clear hi); (try clear ho0); (try clear ho1)) | ((with_reducible refine gate_dst (N := 12) rfl ?_); (try (refine gate_guard (by rfl) ?_; dsimp only)); refine box_event ?hg (N := 12) ?hd (cs := #[.int .i64 0, .slice none 0 0]) (t := 40) ?hr ?_; (case hd => rfl); (case hg => rfl); (case hr => first | (go_simp; done) | (go_simp; rfl)); intro gb216 hg w70 hbox hb; have n0_ := Aside0.mk (Kd.N_below (Kd.N_elderB (by (with_reducible repeat (first | apply Kd.N_alloc | apply Kd.N_drewN | apply Kd.N_drew)); exact HO_6.out) gb216 (Nat.le_of_eq hg.symm)) hb); have n1_ := Aside0.mk (Kd.R_below (by (with_reducible repeat (first | apply Kd.R_alloc | apply Kd.R_drewN | apply Kd.R_drew)); exact HO_8.out) hb); have n2_ := Aside0.mk (Kd.V_below (Kd.V_elderB (by (with_reducible repeat (first | apply Kd.V_alloc | apply Kd.V_drewN | apply Kd.V_drew)); exact HO211.out) gb216 (Nat.le_of_eq hg.symm)) hb); have n3_ := Aside0.mk (Kd.N_below (Kd.N_elderB (by (with_reducible repeat (first | apply Kd.N_alloc | apply Kd.N_drewN | apply Kd.N_drew)); exact HO214.out) gb216 (Nat.le_of_eq hg.symm)) hb); have n4_ := Aside0.mk (below_step (by repeat (first | (with_reducible first | exact HB.out | apply below_alloc | apply pw_below_drewN | apply below_drew1) | exact HB.out)) hb); have n5_ := Aside0.mk (hbox); have n6_ := Aside0.mk ((by rw [hg]; exact (below_size (by repeat (first | (with_reducible first | exact HB.out | apply below_alloc | apply pw_below_drewN | apply below_drew1) | exact HB.out))) : w.heap.size ≤ gb216)); have n7_ := Aside0.mk ((by rw [hg]; exact (below_size (by repeat (first | (with_reducible first | exact HB.out | apply below_alloc | apply pw_below_drewN | apply below_drew1) | exact HB.out))) : w.heap.size ≤ gb216)); clear HO_6; clear HO_8; clear HO211; clear HO214; clear HB; have HO_6 := n0_; have HO_8 := n1_; have HO211 := n2_; have HO214 := n3_; have HB := n4_; have BK216 := n5_; have GW216 := n6_; have GE216 := n7_; clear n0_ n1_ n2_ n3_ n4_ n5_ n6_ n7_; clear hb hbox hg; have hcz71_0 : w70.cell? ⟨gb216, 0, none⟩ = some (.int .i64 0) := (blk_cell BK216.out 0).trans rfl; have hcz71_1 : w70.cell? ⟨gb216, 1, none⟩ = some (.slice none 0 0) := (blk_cell BK216.out 1).trans rfl; have hfz71_0 := blk_frozen BK216.out 0; have hfz71_1 := blk_frozen BK216.out 1; obtain ⟨Ao72, co72, eo72⟩ := Kd.V_slice HO211.out; subst eo72))
                                                  have n0_ : Aside0 (Kd.N k40 40 ((w70.setCell ⟨gb216, 0, none⟩ (.int .i64 t208)).setCell ⟨gb216, 1, none⟩ (.slice Ao72 t209.length co72)) w.heap.size (fun k_ => some k_ ≠ (u8 : Value).ownBlock ∧ some k_ ≠ (v213 : Value).ownBlock ∧ k_ ≠ gb216) (.slice Ao68 x6_4.length co68) x6_4) := ⟨by (with_reducible repeat (first | apply Kd.N_alloc | apply Kd.N_drewN | apply Kd.N_drew)); exact Kd.N_mono (Kd.N_far (p := ⟨gb216, 1, none⟩) (Kd.N_far (p := ⟨gb216, 0, none⟩) (Kd.N_mono HO_6.out (fun k_ hk => (⟨hk, hk.2⟩ : _ ∧ k_ ≠ gb216))) (fun _ hk => hk.2) (.int .i64 t208)) (fun _ hk => hk.2) (.slice Ao72 t209.length co72)) (fun _ hk => ⟨hk.1.1.1, ⟨hk.1.1.2, hk.1.2⟩⟩)⟩
                                                  have n1_ : Aside0 (Kd.R (Kd.int .i64) 3 ((w70.setCell ⟨gb216, 0, none⟩ (.int .i64 t208)).setCell ⟨gb216, 1, none⟩ (.slice Ao72 t209.length co72)) w.heap.size (fun _ => True) u8 x8_4) := ⟨by (with_reducible repeat (first | apply Kd.R_alloc | apply Kd.R_drewN | apply Kd.R_drew)); exact Kd.R_mono (Kd.R_far (p := ⟨gb216, 1, none⟩) (Kd.R_far (p := ⟨gb216, 0, none⟩) (Kd.R_types HO_8.out BK216.out (by decide)) (fun _ hk => hk.2) (.int .i64 t208)) (fun _ hk => hk.2) (.slice Ao72 t209.length co72)) (fun _ hk => trivial)⟩
                                                  have n2_ : Aside0 (Kd.V (Kd.int .u8) 5 ((w70.setCell ⟨gb216, 0, none⟩ (.int .i64 t208)).setCell ⟨gb216, 1, none⟩ (.slice Ao72 t209.length co72)) w.heap.size (fun k_ => some k_ ≠ (.slice Ao68 x6_4.length co68 : Value).ownBlock ∧ some k_ ≠ (u8 : Value).ownBlock ∧ some k_ ≠ (v213 : Value).ownBlock ∧ k_ ≠ gb216) (.slice Ao72 t209.length co72) t209) := ⟨by (with_reducible repeat (first | apply Kd.V_alloc | apply Kd.V_drewN | apply Kd.V_drew)); exact Kd.V_mono (Kd.V_far (p := ⟨gb216, 1, none⟩) (Kd.V_far (p := ⟨gb216, 0, none⟩) (Kd.V_mono HO211.out (fun k_ hk => (⟨hk, hk.2⟩ : _ ∧ k_ ≠ gb216))) (fun _ hk => hk.2) (.int .i64 t208)) (fun _ hk => hk.2) (.slice Ao72 t209.length co72)) (fun _ hk => ⟨hk.1.1.2.1, ⟨hk.1.1.2.2, ⟨hk.1.1.1, hk.1.2⟩⟩⟩)⟩
                                                  have n3_ : Aside0 (Kd.N k40 40 ((w70.setCell ⟨gb216, 0, none⟩ (.int .i64 t208)).setCell ⟨gb216, 1, none⟩ (.slice Ao72 t209.length co72)) w.heap.size (fun k_ => some k_ ≠ (.slice Ao68 x6_4.length co68 : Value).ownBlock ∧ some k_ ≠ (u8 : Value).ownBlock ∧ k_ ≠ gb216) v213 t212) := ⟨by (with_reducible repeat (first | apply Kd.N_alloc | apply Kd.N_drewN | apply Kd.N_drew)); exact Kd.N_mono (Kd.N_far (p := ⟨gb216, 1, none⟩) (Kd.N_far (p := ⟨gb216, 0, none⟩) (Kd.N_mono HO214.out (fun k_ hk => (⟨hk, hk.2⟩ : _ ∧ k_ ≠ gb216))) (fun _ hk => hk.2) (.int .i64 t208)) (fun _ hk => hk.2) (.slice Ao72 t209.length co72)) (fun _ hk => ⟨hk.1.1.1, ⟨hk.1.1.2, hk.1.2⟩⟩)⟩
                                                  have n4_ : Aside0 (((w70.setCell ⟨gb216, 0, none⟩ (.int .i64 t208)).setCell ⟨gb216, 1, none⟩ (.slice Ao72 t209.length co72)).heap[gb216]? = some (.cells #[.int .i64 t208, .slice Ao72 t209.length co72] 40 (0, 0))) := ⟨by (with_reducible repeat (first | refine blk_drewN ?_ _ | refine blk_drew ?_ | refine blk_alloc ?_ _)); refine blk_put (cs := #[.int .i64 t208, .slice none 0 0]) ?_ 1 _ rfl; (with_reducible repeat (first | refine blk_drewN ?_ _ | refine blk_drew ?_ | refine blk_alloc ?_ _)); refine blk_put (cs := #[.int .i64 0, .slice none 0 0]) ?_ 0 _ rfl; (with_reducible repeat (first | refine blk_drewN ?_ _ | refine blk_drew ?_ | refine blk_alloc ?_ _)); exact BK216.out⟩
                                                  have n5_ : Aside0 (Below w.heap.size w ((w70.setCell ⟨gb216, 0, none⟩ (.int .i64 t208)).setCell ⟨gb216, 1, none⟩ (.slice Ao72 t209.length co72))) := ⟨by repeat (first | (with_reducible first | exact HB.out | apply below_alloc | apply pw_below_drewN | apply below_drew1 | refine below_set ?_ GE216.out) | exact HB.out)⟩
                                                  (try clear HO_6)
                                                  (try clear HO_8)
                                                  (try clear HO211)
                                                  (try clear HO214)
                                                  (try clear BK216)
                                                  (try clear HB)
                                                  generalize ((w70.setCell ⟨gb216, 0, none⟩ (.int .i64 t208)).setCell ⟨gb216, 1, none⟩ (.slice Ao72 t209.length co72)) = w73 at n0_ n1_ n2_ n3_ n4_ n5_ ⊢
                                                  have HO_6 := n0_
                                                  have HO_8 := n1_
                                                  have HO211 := n2_
                                                  have HO214 := n3_
                                                  have BK216 := n4_
                                                  have HB := n5_
                                                  clear n0_ n1_ n2_ n3_ n4_ n5_
                                                  have n0_ := Aside0.mk (Kd.N_drew HO_6.out)
                                                  have n1_ := Aside0.mk (Kd.R_drew HO_8.out)
                                                  have n2_ := Aside0.mk (Kd.V_drew HO211.out)
                                                  have n3_ := Aside0.mk (Kd.N_drew HO214.out)
                                                  have n4_ := Aside0.mk (blk_drew BK216.out)
                                                  have n5_ := Aside0.mk (below_drew1 HB.out)
                                                  clear HO_6
                                                  clear HO_8
                                                  clear HO211
                                                  clear HO214
                                                  clear BK216
                                                  clear HB
                                                  have HO_6 := n0_
                                                  have HO_8 := n1_
                                                  have HO211 := n2_
                                                  have HO214 := n3_
                                                  have BK216 := n4_
                                                  have HB := n5_
                                                  clear n0_ n1_ n2_ n3_ n4_ n5_
                                                  obtain ⟨Ao75, co75, eo75⟩ := Kd.R_slice HO_8.out
                                                  (first | subst eo75 | (injection eo75 with f1_ f2_ f3_; have f4_ := f1_.symm; have f5_ := f3_.symm; clear f1_ f2_ f3_; subst f4_; subst f5_))
                                                  have p217 : 0 ≤ (x11_31 : Int) := of_decide_eq_true (by first | (with_reducible assumption) | assumption)
                                                  have q217 : x11_31 < (x8_4.length : Int) := of_decide_eq_true (by first | (with_reducible assumption) | assumption)
                                                  obtain ⟨ad217, e217, hx217_0⟩ := Kd.at_int (Kd.R_reads' HO_8.out).2.2 x11_31 p217 q217
                                                  cases e217
                                                  replace p217 := eq_true p217; (try (have p217s := p217; rw [List.length_drop] at p217s)); (try (have p217t := p217; rw [List.length_take] at p217t))
                                                  replace q217 := eq_true q217; (try (have q217s := q217; rw [List.length_drop] at q217s)); (try (have q217t := q217; rw [List.length_take] at q217t))
                                                  have p218 : 0 ≤ ((rd x8_4 x11_31) : Int) := of_decide_eq_true (by first | (with_reducible assumption) | assumption)
                                                  have q218 : (rd x8_4 x11_31) < (l0.length : Int) := of_decide_eq_true (by first | (with_reducible assumption) | assumption)
                                                  obtain ⟨ad218, A218_1, c218_1, e218, hx218_0, hx218_1, hl218_1, hi218_1⟩ := at_T40 HR0.out (rd x8_4 x11_31) p218 q218
                                                  have hw218_1 := hx218_1
                                                  have hw218_0 := hx218_0
                                                  cases e218
                                                  replace hx218_0 := (HB.out.cell (World.block_lt_of_cell? w _ hx218_0)).trans hx218_0
                                                  replace hx218_1 := (HB.out.cell (World.block_lt_of_cell? w _ hx218_1)).trans hx218_1
                                                  have HR218_1 := Aside0.mk hi218_1
                                                  have HC218_1 := Aside0.mk hl218_1
                                                  clear hi218_1 hl218_1
                                                  replace p218 := eq_true p218; (try (have p218s := p218; rw [List.length_drop] at p218s)); (try (have p218t := p218; rw [List.length_take] at p218t))
                                                  replace q218 := eq_true q218; (try (have q218s := q218; rw [List.length_drop] at q218s)); (try (have q218t := q218; rw [List.length_take] at q218t))
                                                  refine start_ (n := 22) (S := fun w' => w'.cell? ⟨gb216, 0, none⟩ = some (.int .i64 t208) ∧ w'.cell? ⟨gb216, 1, none⟩ = some (.slice Ao72 t209.length co72) ∧ w'.cell? (ad217.add (x11_31).toNat) = some (.int .i64 (rd x8_4 x11_31)) ∧ w'.cell? (ad218.add (((rd x8_4 x11_31)).toNat * 2)) = some (.int .i64 ((rd_T40 l0 (rd x8_4 x11_31)).f0)) ∧ w'.cell? ⟨(ad218.add (((rd x8_4 x11_31)).toNat * 2)).block, (ad218.add (((rd x8_4 x11_31)).toNat * 2)).off + 1, none⟩ = some (.slice A218_1 ((rd_T40 l0 (rd x8_4 x11_31)).f1).length c218_1)) (ds := []) #[false, false, false, false, false, false, false, false, false, false, false, false, false, false, false, false, false, false, false, false, false, false] (by kernel_rfl) rfl rfl ⟨(blk_cell BK216.out 0).trans rfl, (blk_cell BK216.out 1).trans rfl, hx217_0, ((HB.out.cell (World.block_lt_of_cell? w _ hw218_0)).trans hw218_0), ((HB.out.cell (World.block_lt_of_cell? w _ hw218_1)).trans hw218_1)⟩ (fun hHeld => ?_); refine with_tabW thrumlaw21_NetGives.tab22 thrumlaw21_NetGives.bits22 (fun HT_ HW_ => ?_)
                                                  generalize w73.drew = w74 at HO_6 HO_8 HO211 HO214 BK216 HB HR218_1 hx217_0 hx218_0 hx218_1 hHeld ⊢
                                                  refine pure_ (i := 0) (N := some 82) (v := ?_) (a' := ?_) #[true, false, false, false, false, false, false, false, false, false, false, false, false, false, false, false, false, false, false, false, false, false] rfl rfl (any_of HT_.out (by kernel_rfl)) (fun _ _ _ h => h) (Or.inl ⟨by rfl, ?_⟩) ?_ ?_
                                                  rotate_left
                                                  · intro w'
                                                    go_simp
                                                    with_reducible rfl
                                                  rotate_left
                                                  · simp only [Act.put, List.setIfInBounds_toArray, List.set_cons_zero, List.set_cons_succ, i64_w, i32_w]
                                                    rfl
                                                  refine pure_ (i := 1) (N := some 83) (v := ?_) (a' := ?_) #[true, true, false, false, false, false, false, false, false, false, false, false, false, false, false, false, false, false, false, false, false, false] rfl rfl (any_of HT_.out (by kernel_rfl)) (fun _ _ _ h => h) (Or.inl ⟨by rfl, ?_⟩) ?_ ?_
                                                  rotate_left
                                                  · intro w'
                                                    go_simp
                                                    with_reducible rfl
                                                  rotate_left
                                                  · simp only [Act.put, List.setIfInBounds_toArray, List.set_cons_zero, List.set_cons_succ, i64_w, i32_w]
                                                    rfl
                                                  refine pure_ (i := 2) (N := some 84) (v := ?_) (a' := ?_) #[true, true, true, false, false, false, false, false, false, false, false, false, false, false, false, false, false, false, false, false, false, false] rfl rfl (any_of HT_.out (by kernel_rfl)) (fun _ _ _ h => h) (Or.inl ⟨by rfl, ?_⟩) ?_ ?_
                                                  rotate_left
                                                  · intro w'
                                                    go_simp
                                                    with_reducible rfl
                                                  rotate_left
                                                  · simp only [Act.put, List.setIfInBounds_toArray, List.set_cons_zero, List.set_cons_succ, i64_w, i32_w]
                                                    rfl
                                                  refine pure_ (i := 4) (N := some 86) (v := ?_) (a' := ?_) #[true, true, true, false, true, false, false, false, false, false, false, false, false, false, false, false, false, false, false, false, false, false] rfl rfl (any_of HT_.out (by kernel_rfl)) (fun _ _ _ h => h) (Or.inl ⟨by rfl, ?_⟩) ?_ ?_
                                                  rotate_left
                                                  · intro w'
                                                    go_simp
                                                    with_reducible rfl
                                                  rotate_left
                                                  · simp only [Act.put, List.setIfInBounds_toArray, List.set_cons_zero, List.set_cons_succ, i64_w, i32_w]
                                                    rfl
                                                  refine pure_ (i := 5) (N := some 87) (v := ?_) (a' := ?_) #[true, true, true, false, true, true, false, false, false, false, false, false, false, false, false, false, false, false, false, false, false, false] rfl rfl (any_of HT_.out (by kernel_rfl)) (fun _ _ _ h => h) (Or.inl ⟨by rfl, ?_⟩) ?_ ?_
                                                  rotate_left
                                                  · intro w'
                                                    go_simp
                                                    with_reducible rfl
                                                  rotate_left
                                                  · simp only [Act.put, List.setIfInBounds_toArray, List.set_cons_zero, List.set_cons_succ, i64_w, i32_w]
                                                    rfl
                                                  refine pure_ (i := 6) (N := some 88) (v := ?_) (a' := ?_) #[true, true, true, false, true, true, true, false, false, false, false, false, false, false, false, false, false, false, false, false, false, false] rfl rfl (any_of HT_.out (by kernel_rfl)) (fun _ _ _ h => h) (Or.inl ⟨by rfl, ?_⟩) ?_ ?_
                                                  rotate_left
                                                  · intro w'
                                                    go_simp
                                                    with_reducible rfl
                                                  rotate_left
                                                  · simp only [Act.put, List.setIfInBounds_toArray, List.set_cons_zero, List.set_cons_succ, i64_w, i32_w]
                                                    rfl
                                                  refine pure_ (i := 7) (N := some 89) (v := ?_) (a' := ?_) #[true, true, true, false, true, true, true, true, false, false, false, false, false, false, false, false, false, false, false, false, false, false] rfl rfl (any_of HT_.out (by kernel_rfl)) (fun _ _ _ h => h) (Or.inl ⟨by rfl, ?_⟩) ?_ ?_
                                                  rotate_left
                                                  · intro w'
                                                    go_simp
                                                    with_reducible rfl
                                                  rotate_left
                                                  · simp only [Act.put, List.setIfInBounds_toArray, List.set_cons_zero, List.set_cons_succ, i64_w, i32_w]
                                                    rfl
                                                  refine take_ (i := 3) (N := some 85) (v := ?_) (a' := ?_) #[true, true, true, true, true, true, true, true, false, false, false, false, false, false, false, false, false, false, false, false, false, false] rfl rfl (take_ofW HT_.out HW_.out (by kernel_rfl)) (fun _ _ _ h => h) (Or.inl ⟨by rfl, ?_⟩) hHeld ?_ ?_
                                                  rotate_left
                                                  · rintro w' ⟨s0, s1, s2, s3, s4⟩
                                                    go_simp
                                                    with_reducible rfl
                                                  rotate_left
                                                  · simp only [Act.put, List.setIfInBounds_toArray, List.set_cons_zero, List.set_cons_succ, i64_w, i32_w]
                                                    rfl
                                                  refine take_ (i := 8) (N := some 90) (v := ?_) (a' := ?_) #[true, true, true, true, true, true, true, true, true, false, false, false, false, false, false, false, false, false, false, false, false, false] rfl rfl (take_ofW HT_.out HW_.out (by kernel_rfl)) (fun _ _ _ h => h) (Or.inl ⟨by rfl, ?_⟩) hHeld ?_ ?_
                                                  rotate_left
                                                  · rintro w' ⟨s0, s1, s2, s3, s4⟩
                                                    go_simp
                                                    with_reducible rfl
                                                  rotate_left
                                                  · simp only [Act.put, List.setIfInBounds_toArray, List.set_cons_zero, List.set_cons_succ, i64_w, i32_w]
                                                    rfl
                                                  refine pure_ (i := 9) (N := some 91) (v := ?_) (a' := ?_) #[true, true, true, true, true, true, true, true, true, true, false, false, false, false, false, false, false, false, false, false, false, false] rfl rfl (any_of HT_.out (by kernel_rfl)) (fun _ _ _ h => h) (Or.inl ⟨by rfl, ?_⟩) ?_ ?_
                                                  rotate_left
                                                  · intro w'
                                                    go_simp
                                                    with_reducible rfl
                                                  rotate_left
                                                  · simp only [Act.put, List.setIfInBounds_toArray, List.set_cons_zero, List.set_cons_succ, i64_w, i32_w]
                                                    rfl
                                                  refine take_ (i := 10) (N := some 92) (v := ?_) (a' := ?_) #[true, true, true, true, true, true, true, true, true, true, true, false, false, false, false, false, false, false, false, false, false, false] rfl rfl (take_ofW HT_.out HW_.out (by kernel_rfl)) (fun _ _ _ h => h) (Or.inl ⟨by rfl, ?_⟩) hHeld ?_ ?_
                                                  rotate_left
                                                  · rintro w' ⟨s0, s1, s2, s3, s4⟩
                                                    go_simp
                                                    with_reducible rfl
                                                  rotate_left
                                                  · simp only [Act.put, List.setIfInBounds_toArray, List.set_cons_zero, List.set_cons_succ, i64_w, i32_w]
                                                    rfl
                                                  refine one_ (i := 11) (N := some 93) #[true, true, true, true, true, true, true, true, true, true, true, true, false, false, false, false, false, false, false, false, false, false] rfl rfl (one_of HT_.out (by kernel_rfl)) (by decide) (fun K hK => ?_)
                                                  refine goes_ Try.func25 (by kernel_rfl) rfl #[.agg #[.int .i64 t208, .slice Ao72 t209.length co72], .agg #[.int .i64 ((rd_T40 l0 (rd x8_4 x11_31)).f0), .slice A218_1 ((rd_T40 l0 (rd x8_4 x11_31)).f1).length c218_1]] (by rfl) rfl rfl (by (try simp only [List.map_toArray, List.map_cons, List.map_nil]); first | done | rfl | (simp only [List.length_drop, List.length_take]; rfl)) ?_
                                                  with_reducible refine (thrumref21_One.calls t208 _ _ t209 ((rd_T40 l0 (rd x8_4 x11_31)).f0) _ _ ((rd_T40 l0 (rd x8_4 x11_31)).f1) true _ ?side1 ?side2 ?side3 ?side4 A43.out).mono ?_
                                                  (case side1 => repeat (first | exact (Kd.V_reads' HO211.out).2.2 | (with_reducible refine Kd.C_alloc ?_ _) | (with_reducible refine Kd.C_drewN ?_ _) | (with_reducible refine Kd.C_drew ?_)))
                                                  (case side2 => exact (Kd.V_reads' HO211.out).2.1)
                                                  (case side3 => repeat (first | exact (Kd.C_below HR218_1.out HB.out) | (with_reducible refine Kd.C_alloc ?_ _) | (with_reducible refine Kd.C_drewN ?_ _) | (with_reducible refine Kd.C_drew ?_)))
                                                  (case side4 => exact HC218_1.out)
                                                  rintro e w76 ⟨rfl, hb⟩
                                                  have HS2_ := (hb.cell (World.block_lt_of_cell? _ _ (hHeld.2.2.1))).trans (hHeld.2.2.1)
                                                  refine ⟨_, rfl, ?_⟩
                                                  have n0_ := Aside0.mk (Kd.N_below (by (with_reducible repeat (first | apply Kd.N_alloc | apply Kd.N_drewN | apply Kd.N_drew)); exact HO_6.out) hb)
                                                  have n1_ := Aside0.mk (Kd.R_below (by (with_reducible repeat (first | apply Kd.R_alloc | apply Kd.R_drewN | apply Kd.R_drew)); exact HO_8.out) hb)
                                                  have n2_ := Aside0.mk (Kd.V_below (by (with_reducible repeat (first | apply Kd.V_alloc | apply Kd.V_drewN | apply Kd.V_drew)); exact HO211.out) hb)
                                                  have n3_ := Aside0.mk (Kd.N_below (by (with_reducible repeat (first | apply Kd.N_alloc | apply Kd.N_drewN | apply Kd.N_drew)); exact HO214.out) hb)
                                                  have n4_ := Aside0.mk (blk_below (g := gb216) (o := .cells #[.int .i64 t208, .slice Ao72 t209.length co72] 40 (0, 0)) (by (with_reducible repeat (first | refine blk_drewN ?_ _ | refine blk_drew ?_ | refine blk_alloc ?_ _)); exact BK216.out) hb)
                                                  have n5_ := Aside0.mk (below_step (by repeat (first | (with_reducible first | exact HB.out | apply below_alloc | apply pw_below_drewN | apply below_drew1 | refine below_set ?_ GE216.out) | exact HB.out)) hb)
                                                  clear HO_6
                                                  clear HO_8
                                                  clear HO211
                                                  clear HO214
                                                  clear BK216
                                                  clear HB
                                                  have HO_6 := n0_
                                                  have HO_8 := n1_
                                                  have HO211 := n2_
                                                  have HO214 := n3_
                                                  have BK216 := n4_
                                                  have HB := n5_
                                                  clear n0_ n1_ n2_ n3_ n4_ n5_
                                                  (try clear hb)
                                                  (try clear hb2)
                                                  (try clear hk)
                                                  (try clear hi)
                                                  obtain ⟨Ao77, co77, eo77⟩ := Kd.N_slice HO214.out
                                                  (first | subst eo77 | (injection eo77 with f1_ f2_ f3_; have f4_ := f1_.symm; have f5_ := f3_.symm; clear f1_ f2_ f3_; subst f4_; subst f5_))
                                                  refine hK.out _ _ ⟨(blk_cell BK216.out 0).trans rfl, (blk_cell BK216.out 1).trans rfl, HS2_, ((HB.out.cell (World.block_lt_of_cell? w _ hw218_0)).trans hw218_0), ((HB.out.cell (World.block_lt_of_cell? w _ hw218_1)).trans hw218_1)⟩ (fun hHeld => ?_)
                                                  clear hK K
                                                  refine norm_ (a' := ?_) ?_ ?_
                                                  rotate_left
                                                  · show Act.put _ (some 93) _ = _
                                                    simp only [Act.put, List.setIfInBounds_toArray, List.set_cons_zero, List.set_cons_succ, i64_w, i32_w]
                                                    rfl
                                                  refine pure_ (i := 12) (N := some 94) (v := ?_) (a' := ?_) #[true, true, true, true, true, true, true, true, true, true, true, true, true, false, false, false, false, false, false, false, false, false] rfl rfl (any_of HT_.out (by kernel_rfl)) (fun _ _ _ h => h) (Or.inl ⟨by rfl, ?_⟩) ?_ ?_
                                                  rotate_left
                                                  · intro w'
                                                    go_simp
                                                    with_reducible rfl
                                                  rotate_left
                                                  · simp only [Act.put, List.setIfInBounds_toArray, List.set_cons_zero, List.set_cons_succ, i64_w, i32_w]
                                                    rfl
                                                  refine pure_ (i := 13) (N := some 95) (v := ?_) (a' := ?_) #[true, true, true, true, true, true, true, true, true, true, true, true, true, true, false, false, false, false, false, false, false, false] rfl rfl (any_of HT_.out (by kernel_rfl)) (fun _ _ _ h => h) (Or.inl ⟨by rfl, ?_⟩) ?_ ?_
                                                  rotate_left
                                                  · intro w'
                                                    go_simp
                                                    with_reducible rfl
                                                  rotate_left
                                                  · simp only [Act.put, List.setIfInBounds_toArray, List.set_cons_zero, List.set_cons_succ, i64_w, i32_w]
                                                    rfl
                                                  refine pure_ (i := 14) (N := some 96) (v := ?_) (a' := ?_) #[true, true, true, true, true, true, true, true, true, true, true, true, true, true, true, false, false, false, false, false, false, false] rfl rfl (any_of HT_.out (by kernel_rfl)) (fun _ _ _ h => h) (Or.inl ⟨by rfl, ?_⟩) ?_ ?_
                                                  rotate_left
                                                  · intro w'
                                                    go_simp
                                                    with_reducible rfl
                                                  rotate_left
                                                  · simp only [Act.put, List.setIfInBounds_toArray, List.set_cons_zero, List.set_cons_succ, i64_w, i32_w]
                                                    rfl
                                                  refine pure_ (i := 15) (N := some 97) (v := ?_) (a' := ?_) #[true, true, true, true, true, true, true, true, true, true, true, true, true, true, true, true, false, false, false, false, false, false] rfl rfl (any_of HT_.out (by kernel_rfl)) (fun _ _ _ h => h) (Or.inl ⟨by rfl, ?_⟩) ?_ ?_
                                                  rotate_left
                                                  · intro w'
                                                    go_simp
                                                    with_reducible rfl
                                                  rotate_left
                                                  · simp only [Act.put, List.setIfInBounds_toArray, List.set_cons_zero, List.set_cons_succ, i64_w, i32_w]
                                                    rfl
                                                  refine pure_ (i := 16) (N := some 98) (v := ?_) (a' := ?_) #[true, true, true, true, true, true, true, true, true, true, true, true, true, true, true, true, true, false, false, false, false, false] rfl rfl (any_of HT_.out (by kernel_rfl)) (fun _ _ _ h => h) (Or.inl ⟨by rfl, ?_⟩) ?_ ?_
                                                  rotate_left
                                                  · intro w'
                                                    go_simp
                                                    with_reducible rfl
                                                  rotate_left
                                                  · simp only [Act.put, List.setIfInBounds_toArray, List.set_cons_zero, List.set_cons_succ, i64_w, i32_w]
                                                    rfl
                                                  refine pure_ (i := 17) (N := some 99) (v := ?_) (a' := ?_) #[true, true, true, true, true, true, true, true, true, true, true, true, true, true, true, true, true, true, false, false, false, false] rfl rfl (any_of HT_.out (by kernel_rfl)) (fun _ _ _ h => h) (Or.inl ⟨by rfl, ?_⟩) ?_ ?_
                                                  rotate_left
                                                  · intro w'
                                                    go_simp
                                                    with_reducible rfl
                                                  rotate_left
                                                  · simp only [Act.put, List.setIfInBounds_toArray, List.set_cons_zero, List.set_cons_succ, i64_w, i32_w]
                                                    rfl
                                                  refine pure_ (i := 18) (N := some 100) (v := ?_) (a' := ?_) #[true, true, true, true, true, true, true, true, true, true, true, true, true, true, true, true, true, true, true, false, false, false] rfl rfl (any_of HT_.out (by kernel_rfl)) (fun _ _ _ h => h) (Or.inl ⟨by rfl, ?_⟩) ?_ ?_
                                                  rotate_left
                                                  · intro w'
                                                    go_simp
                                                    with_reducible rfl
                                                  rotate_left
                                                  · simp only [Act.put, List.setIfInBounds_toArray, List.set_cons_zero, List.set_cons_succ, i64_w, i32_w]
                                                    rfl
                                                  refine pure_ (i := 19) (N := some 101) (v := ?_) (a' := ?_) #[true, true, true, true, true, true, true, true, true, true, true, true, true, true, true, true, true, true, true, true, false, false] rfl rfl (any_of HT_.out (by kernel_rfl)) (fun _ _ _ h => h) (Or.inl ⟨by rfl, ?_⟩) ?_ ?_
                                                  rotate_left
                                                  · intro w'
                                                    go_simp
                                                    with_reducible rfl
                                                  rotate_left
                                                  · simp only [Act.put, List.setIfInBounds_toArray, List.set_cons_zero, List.set_cons_succ, i64_w, i32_w]
                                                    rfl
                                                  refine pure_ (i := 20) (N := some 102) (v := ?_) (a' := ?_) #[true, true, true, true, true, true, true, true, true, true, true, true, true, true, true, true, true, true, true, true, true, false] rfl rfl (any_of HT_.out (by kernel_rfl)) (fun _ _ _ h => h) (Or.inl ⟨by rfl, ?_⟩) ?_ ?_
                                                  rotate_left
                                                  · intro w'
                                                    go_simp
                                                    with_reducible rfl
                                                  rotate_left
                                                  · simp only [Act.put, List.setIfInBounds_toArray, List.set_cons_zero, List.set_cons_succ, i64_w, i32_w]
                                                    rfl
                                                  refine pure_ (i := 21) (N := some 103) (v := ?_) (a' := ?_) #[true, true, true, true, true, true, true, true, true, true, true, true, true, true, true, true, true, true, true, true, true, true] rfl rfl (any_of HT_.out (by kernel_rfl)) (fun _ _ _ h => h) (Or.inl ⟨by rfl, ?_⟩) ?_ ?_
                                                  rotate_left
                                                  · intro w'
                                                    go_simp
                                                    with_reducible rfl
                                                  rotate_left
                                                  · simp only [Act.put, List.setIfInBounds_toArray, List.set_cons_zero, List.set_cons_succ, i64_w, i32_w]
                                                    rfl
                                                  refine done_ (done_of HT_.out (by kernel_rfl)) ?_
                                                  try go_wp2
                                                  go_ret
                                                  exact ⟨by first | rfl | (simp [errW_none, errW_some] <;> rfl) | (simp [*, errW_none, errW_some] <;> rfl), by repeat (first | (with_reducible first | exact HB.out | apply below_alloc | apply pw_below_drewN | apply below_drew1 | refine below_set ?_ GE216.out) | exact HB.out)⟩
                                              · replace c44 := Bool.eq_false_iff.mpr c44
                                                subst c44
                                                have H1 : (some false) = some r := by rw [if_neg (show ¬ (false = true) by decide)] at H; exact H
                                                clear H
                                                have H := H1
                                                clear H1
                                                obtain rfl := Option.some.inj H
                                                obtain ⟨Ao78, co78, eo78⟩ := Kd.N_slice HO_6.out
                                                subst eo78
                                                try go_wp2_with (first | ((with_reducible refine gate_callee (f := 24) rfl ?_); refine goesL_ (some 78) rfl rfl Try.func24 (by kernel_rfl) rfl #[.slice Ao78 x6_4.length co78, .int .i64 x11_31] rfl (by (try simp only [List.map_toArray, List.map_cons, List.map_nil]); first | done | rfl | (simp only [List.length_drop, List.length_take]; rfl)) ?_; (with_reducible refine (net_Give.calls kj31 _ _ x6_4 x11_31 t208 t209 t212 t215 _ ?side1 ?side2 A37.out).mono ?_); (case side1 => repeat (first | exact (Kd.N_reads' HO_6.out).2.2 | (with_reducible refine Kd.C_alloc ?_ _) | (with_reducible refine Kd.C_drewN ?_ _) | (with_reducible refine Kd.C_drew ?_))); (case side2 => exact (Kd.N_reads' HO_6.out).2.1); rintro e w79 ⟨v210, v213, rfl, ho0, ho1, hb⟩; refine ⟨_, rfl, ?_⟩; have n0_ := Aside0.mk (Kd.N_elder' (by (with_reducible repeat (first | apply Kd.N_alloc | apply Kd.N_drewN | apply Kd.N_drew)); exact HO_6.out) (Kd.N_base ho1) hb); have n1_ := Aside0.mk (Kd.R_below (by (with_reducible repeat (first | apply Kd.R_alloc | apply Kd.R_drewN | apply Kd.R_drew)); exact HO_8.out) hb); have n2_ := Aside0.mk (Kd.V_lower (Kd.V_mono (ok' := fun k_ => some k_ ≠ (v213 : Value).ownBlock ∧ some k_ ≠ (.slice Ao78 x6_4.length co78 : Value).ownBlock ∧ some k_ ≠ (u8 : Value).ownBlock) ho0 (fun k_ hk_ => ⟨hk_.2, (Kd.fresh' (Kd.N_lt (by (with_reducible repeat (first | apply Kd.N_alloc | apply Kd.N_drewN | apply Kd.N_drew)); exact HO_6.out)) k_ hk_.1), (Kd.fresh' (Kd.R_lt (by (with_reducible repeat (first | apply Kd.R_alloc | apply Kd.R_drewN | apply Kd.R_drew)); exact HO_8.out)) k_ hk_.1)⟩)) (below_size (by repeat (first | (with_reducible first | exact HB.out | apply below_alloc | apply pw_below_drewN | apply below_drew1) | exact HB.out)))); have n3_ := Aside0.mk (Kd.N_lower (Kd.N_mono (ok' := fun k_ => some k_ ≠ (.slice Ao78 x6_4.length co78 : Value).ownBlock ∧ some k_ ≠ (u8 : Value).ownBlock) ho1 (fun k_ hk_ => ⟨(Kd.fresh' (Kd.N_lt (by (with_reducible repeat (first | apply Kd.N_alloc | apply Kd.N_drewN | apply Kd.N_drew)); exact HO_6.out)) k_ hk_), (Kd.fresh' (Kd.R_lt (by (with_reducible repeat (first | apply Kd.R_alloc | apply Kd.R_drewN | apply Kd.R_drew)); exact HO_8.out)) k_ hk_)⟩)) (below_size (by repeat (first | (with_reducible first | exact HB.out | apply below_alloc | apply pw_below_drewN | apply below_drew1) | exact HB.out)))); have n4_ := Aside0.mk (below_step (by repeat (first | (with_reducible first | exact HB.out | apply below_alloc | apply pw_below_drewN | apply below_drew1) | exact HB.out)) hb); clear HO_6; clear HO_8; clear HB; have HO_6 := n0_; have HO_8 := n1_; have HO211 := n2_; have HO214 := n3_; have HB := n4_; clear n0_ n1_ n2_ n3_ n4_; (try clear hb); (try clear hb2); (try clear hk); (try clear hi); (try clear ho0); (try clear ho1)) | ((with_reducible refine gate_dst (N := 12) rfl ?_); (try (refine gate_guard (by rfl) ?_; dsimp only)); refine box_event ?hg (N := 12) ?hd (cs := #[.int .i64 0, .slice none 0 0]) (t := 40) ?hr ?_; (case hd => rfl); (case hg => rfl); (case hr => first | (go_simp; done) | (go_simp; rfl)); intro gb216 hg w80 hbox hb; have n0_ := Aside0.mk (Kd.N_below (Kd.N_elderB (by (with_reducible repeat (first | apply Kd.N_alloc | apply Kd.N_drewN | apply Kd.N_drew)); exact HO_6.out) gb216 (Nat.le_of_eq hg.symm)) hb); have n1_ := Aside0.mk (Kd.R_below (by (with_reducible repeat (first | apply Kd.R_alloc | apply Kd.R_drewN | apply Kd.R_drew)); exact HO_8.out) hb); have n2_ := Aside0.mk (Kd.V_below (Kd.V_elderB (by (with_reducible repeat (first | apply Kd.V_alloc | apply Kd.V_drewN | apply Kd.V_drew)); exact HO211.out) gb216 (Nat.le_of_eq hg.symm)) hb); have n3_ := Aside0.mk (Kd.N_below (Kd.N_elderB (by (with_reducible repeat (first | apply Kd.N_alloc | apply Kd.N_drewN | apply Kd.N_drew)); exact HO214.out) gb216 (Nat.le_of_eq hg.symm)) hb); have n4_ := Aside0.mk (below_step (by repeat (first | (with_reducible first | exact HB.out | apply below_alloc | apply pw_below_drewN | apply below_drew1) | exact HB.out)) hb); have n5_ := Aside0.mk (hbox); have n6_ := Aside0.mk ((by rw [hg]; exact (below_size (by repeat (first | (with_reducible first | exact HB.out | apply below_alloc | apply pw_below_drewN | apply below_drew1) | exact HB.out))) : w.heap.size ≤ gb216)); have n7_ := Aside0.mk ((by rw [hg]; exact (below_size (by repeat (first | (with_reducible first | exact HB.out | apply below_alloc | apply pw_below_drewN | apply below_drew1) | exact HB.out))) : w.heap.size ≤ gb216)); clear HO_6; clear HO_8; clear HO211; clear HO214; clear HB; have HO_6 := n0_; have HO_8 := n1_; have HO211 := n2_; have HO214 := n3_; have HB := n4_; have BK216 := n5_; have GW216 := n6_; have GE216 := n7_; clear n0_ n1_ n2_ n3_ n4_ n5_ n6_ n7_; clear hb hbox hg; have hcz81_0 : w80.cell? ⟨gb216, 0, none⟩ = some (.int .i64 0) := (blk_cell BK216.out 0).trans rfl; have hcz81_1 : w80.cell? ⟨gb216, 1, none⟩ = some (.slice none 0 0) := (blk_cell BK216.out 1).trans rfl; have hfz81_0 := blk_frozen BK216.out 0; have hfz81_1 := blk_frozen BK216.out 1; obtain ⟨Ao82, co82, eo82⟩ := Kd.V_slice HO211.out; subst eo82))
                                                have n0_ : Aside0 (Kd.N k40 40 ((w80.setCell ⟨gb216, 0, none⟩ (.int .i64 t208)).setCell ⟨gb216, 1, none⟩ (.slice Ao82 t209.length co82)) w.heap.size (fun k_ => some k_ ≠ (u8 : Value).ownBlock ∧ some k_ ≠ (v213 : Value).ownBlock ∧ k_ ≠ gb216) (.slice Ao78 x6_4.length co78) x6_4) := ⟨by (with_reducible repeat (first | apply Kd.N_alloc | apply Kd.N_drewN | apply Kd.N_drew)); exact Kd.N_mono (Kd.N_far (p := ⟨gb216, 1, none⟩) (Kd.N_far (p := ⟨gb216, 0, none⟩) (Kd.N_mono HO_6.out (fun k_ hk => (⟨hk, hk.2⟩ : _ ∧ k_ ≠ gb216))) (fun _ hk => hk.2) (.int .i64 t208)) (fun _ hk => hk.2) (.slice Ao82 t209.length co82)) (fun _ hk => ⟨hk.1.1.1, ⟨hk.1.1.2, hk.1.2⟩⟩)⟩
                                                have n1_ : Aside0 (Kd.R (Kd.int .i64) 3 ((w80.setCell ⟨gb216, 0, none⟩ (.int .i64 t208)).setCell ⟨gb216, 1, none⟩ (.slice Ao82 t209.length co82)) w.heap.size (fun _ => True) u8 x8_4) := ⟨by (with_reducible repeat (first | apply Kd.R_alloc | apply Kd.R_drewN | apply Kd.R_drew)); exact Kd.R_mono (Kd.R_far (p := ⟨gb216, 1, none⟩) (Kd.R_far (p := ⟨gb216, 0, none⟩) (Kd.R_types HO_8.out BK216.out (by decide)) (fun _ hk => hk.2) (.int .i64 t208)) (fun _ hk => hk.2) (.slice Ao82 t209.length co82)) (fun _ hk => trivial)⟩
                                                have n2_ : Aside0 (Kd.V (Kd.int .u8) 5 ((w80.setCell ⟨gb216, 0, none⟩ (.int .i64 t208)).setCell ⟨gb216, 1, none⟩ (.slice Ao82 t209.length co82)) w.heap.size (fun k_ => some k_ ≠ (.slice Ao78 x6_4.length co78 : Value).ownBlock ∧ some k_ ≠ (u8 : Value).ownBlock ∧ some k_ ≠ (v213 : Value).ownBlock ∧ k_ ≠ gb216) (.slice Ao82 t209.length co82) t209) := ⟨by (with_reducible repeat (first | apply Kd.V_alloc | apply Kd.V_drewN | apply Kd.V_drew)); exact Kd.V_mono (Kd.V_far (p := ⟨gb216, 1, none⟩) (Kd.V_far (p := ⟨gb216, 0, none⟩) (Kd.V_mono HO211.out (fun k_ hk => (⟨hk, hk.2⟩ : _ ∧ k_ ≠ gb216))) (fun _ hk => hk.2) (.int .i64 t208)) (fun _ hk => hk.2) (.slice Ao82 t209.length co82)) (fun _ hk => ⟨hk.1.1.2.1, ⟨hk.1.1.2.2, ⟨hk.1.1.1, hk.1.2⟩⟩⟩)⟩
                                                have n3_ : Aside0 (Kd.N k40 40 ((w80.setCell ⟨gb216, 0, none⟩ (.int .i64 t208)).setCell ⟨gb216, 1, none⟩ (.slice Ao82 t209.length co82)) w.heap.size (fun k_ => some k_ ≠ (.slice Ao78 x6_4.length co78 : Value).ownBlock ∧ some k_ ≠ (u8 : Value).ownBlock ∧ k_ ≠ gb216) v213 t212) := ⟨by (with_reducible repeat (first | apply Kd.N_alloc | apply Kd.N_drewN | apply Kd.N_drew)); exact Kd.N_mono (Kd.N_far (p := ⟨gb216, 1, none⟩) (Kd.N_far (p := ⟨gb216, 0, none⟩) (Kd.N_mono HO214.out (fun k_ hk => (⟨hk, hk.2⟩ : _ ∧ k_ ≠ gb216))) (fun _ hk => hk.2) (.int .i64 t208)) (fun _ hk => hk.2) (.slice Ao82 t209.length co82)) (fun _ hk => ⟨hk.1.1.1, ⟨hk.1.1.2, hk.1.2⟩⟩)⟩
                                                have n4_ : Aside0 (((w80.setCell ⟨gb216, 0, none⟩ (.int .i64 t208)).setCell ⟨gb216, 1, none⟩ (.slice Ao82 t209.length co82)).heap[gb216]? = some (.cells #[.int .i64 t208, .slice Ao82 t209.length co82] 40 (0, 0))) := ⟨by (with_reducible repeat (first | refine blk_drewN ?_ _ | refine blk_drew ?_ | refine blk_alloc ?_ _)); refine blk_put (cs := #[.int .i64 t208, .slice none 0 0]) ?_ 1 _ rfl; (with_reducible repeat (first | refine blk_drewN ?_ _ | refine blk_drew ?_ | refine blk_alloc ?_ _)); refine blk_put (cs := #[.int .i64 0, .slice none 0 0]) ?_ 0 _ rfl; (with_reducible repeat (first | refine blk_drewN ?_ _ | refine blk_drew ?_ | refine blk_alloc ?_ _)); exact BK216.out⟩
                                                have n5_ : Aside0 (Below w.heap.size w ((w80.setCell ⟨gb216, 0, none⟩ (.int .i64 t208)).setCell ⟨gb216, 1, none⟩ (.slice Ao82 t209.length co82))) := ⟨by repeat (first | (with_reducible first | exact HB.out | apply below_alloc | apply pw_below_drewN | apply below_drew1 | refine below_set ?_ GE216.out) | exact HB.out)⟩
                                                (try clear HO_6)
                                                (try clear HO_8)
                                                (try clear HO211)
                                                (try clear HO214)
                                                (try clear BK216)
                                                (try clear HB)
                                                generalize ((w80.setCell ⟨gb216, 0, none⟩ (.int .i64 t208)).setCell ⟨gb216, 1, none⟩ (.slice Ao82 t209.length co82)) = w83 at n0_ n1_ n2_ n3_ n4_ n5_ ⊢
                                                have HO_6 := n0_
                                                have HO_8 := n1_
                                                have HO211 := n2_
                                                have HO214 := n3_
                                                have BK216 := n4_
                                                have HB := n5_
                                                clear n0_ n1_ n2_ n3_ n4_ n5_
                                                have n0_ := Aside0.mk (Kd.N_drew HO_6.out)
                                                have n1_ := Aside0.mk (Kd.R_drew HO_8.out)
                                                have n2_ := Aside0.mk (Kd.V_drew HO211.out)
                                                have n3_ := Aside0.mk (Kd.N_drew HO214.out)
                                                have n4_ := Aside0.mk (blk_drew BK216.out)
                                                have n5_ := Aside0.mk (below_drew1 HB.out)
                                                clear HO_6
                                                clear HO_8
                                                clear HO211
                                                clear HO214
                                                clear BK216
                                                clear HB
                                                have HO_6 := n0_
                                                have HO_8 := n1_
                                                have HO211 := n2_
                                                have HO214 := n3_
                                                have BK216 := n4_
                                                have HB := n5_
                                                clear n0_ n1_ n2_ n3_ n4_ n5_
                                                obtain ⟨Ao85, co85, eo85⟩ := Kd.R_slice HO_8.out
                                                (first | subst eo85 | (injection eo85 with f1_ f2_ f3_; have f4_ := f1_.symm; have f5_ := f3_.symm; clear f1_ f2_ f3_; subst f4_; subst f5_))
                                                have p217 : 0 ≤ (x11_31 : Int) := of_decide_eq_true (by first | (with_reducible assumption) | assumption)
                                                have q217 : x11_31 < (x8_4.length : Int) := of_decide_eq_true (by first | (with_reducible assumption) | assumption)
                                                obtain ⟨ad217, e217, hx217_0⟩ := Kd.at_int (Kd.R_reads' HO_8.out).2.2 x11_31 p217 q217
                                                cases e217
                                                replace p217 := eq_true p217; (try (have p217s := p217; rw [List.length_drop] at p217s)); (try (have p217t := p217; rw [List.length_take] at p217t))
                                                replace q217 := eq_true q217; (try (have q217s := q217; rw [List.length_drop] at q217s)); (try (have q217t := q217; rw [List.length_take] at q217t))
                                                have p218 : 0 ≤ ((rd x8_4 x11_31) : Int) := of_decide_eq_true (by first | (with_reducible assumption) | assumption)
                                                have q218 : (rd x8_4 x11_31) < (l0.length : Int) := of_decide_eq_true (by first | (with_reducible assumption) | assumption)
                                                obtain ⟨ad218, A218_1, c218_1, e218, hx218_0, hx218_1, hl218_1, hi218_1⟩ := at_T40 HR0.out (rd x8_4 x11_31) p218 q218
                                                have hw218_1 := hx218_1
                                                have hw218_0 := hx218_0
                                                cases e218
                                                replace hx218_0 := (HB.out.cell (World.block_lt_of_cell? w _ hx218_0)).trans hx218_0
                                                replace hx218_1 := (HB.out.cell (World.block_lt_of_cell? w _ hx218_1)).trans hx218_1
                                                have HR218_1 := Aside0.mk hi218_1
                                                have HC218_1 := Aside0.mk hl218_1
                                                clear hi218_1 hl218_1
                                                replace p218 := eq_true p218; (try (have p218s := p218; rw [List.length_drop] at p218s)); (try (have p218t := p218; rw [List.length_take] at p218t))
                                                replace q218 := eq_true q218; (try (have q218s := q218; rw [List.length_drop] at q218s)); (try (have q218t := q218; rw [List.length_take] at q218t))
                                                refine start_ (n := 22) (S := fun w' => w'.cell? ⟨gb216, 0, none⟩ = some (.int .i64 t208) ∧ w'.cell? ⟨gb216, 1, none⟩ = some (.slice Ao82 t209.length co82) ∧ w'.cell? (ad217.add (x11_31).toNat) = some (.int .i64 (rd x8_4 x11_31)) ∧ w'.cell? (ad218.add (((rd x8_4 x11_31)).toNat * 2)) = some (.int .i64 ((rd_T40 l0 (rd x8_4 x11_31)).f0)) ∧ w'.cell? ⟨(ad218.add (((rd x8_4 x11_31)).toNat * 2)).block, (ad218.add (((rd x8_4 x11_31)).toNat * 2)).off + 1, none⟩ = some (.slice A218_1 ((rd_T40 l0 (rd x8_4 x11_31)).f1).length c218_1)) (ds := []) #[false, false, false, false, false, false, false, false, false, false, false, false, false, false, false, false, false, false, false, false, false, false] (by kernel_rfl) rfl rfl ⟨(blk_cell BK216.out 0).trans rfl, (blk_cell BK216.out 1).trans rfl, hx217_0, ((HB.out.cell (World.block_lt_of_cell? w _ hw218_0)).trans hw218_0), ((HB.out.cell (World.block_lt_of_cell? w _ hw218_1)).trans hw218_1)⟩ (fun hHeld => ?_); refine with_tabW thrumlaw21_NetGives.tab22 thrumlaw21_NetGives.bits22 (fun HT_ HW_ => ?_)
                                                generalize w83.drew = w84 at HO_6 HO_8 HO211 HO214 BK216 HB HR218_1 hx217_0 hx218_0 hx218_1 hHeld ⊢
                                                refine pure_ (i := 0) (N := some 82) (v := ?_) (a' := ?_) #[true, false, false, false, false, false, false, false, false, false, false, false, false, false, false, false, false, false, false, false, false, false] rfl rfl (any_of HT_.out (by kernel_rfl)) (fun _ _ _ h => h) (Or.inl ⟨by rfl, ?_⟩) ?_ ?_
                                                rotate_left
                                                · intro w'
                                                  go_simp
                                                  with_reducible rfl
                                                rotate_left
                                                · simp only [Act.put, List.setIfInBounds_toArray, List.set_cons_zero, List.set_cons_succ, i64_w, i32_w]
                                                  rfl
                                                refine pure_ (i := 1) (N := some 83) (v := ?_) (a' := ?_) #[true, true, false, false, false, false, false, false, false, false, false, false, false, false, false, false, false, false, false, false, false, false] rfl rfl (any_of HT_.out (by kernel_rfl)) (fun _ _ _ h => h) (Or.inl ⟨by rfl, ?_⟩) ?_ ?_
                                                rotate_left
                                                · intro w'
                                                  go_simp
                                                  with_reducible rfl
                                                rotate_left
                                                · simp only [Act.put, List.setIfInBounds_toArray, List.set_cons_zero, List.set_cons_succ, i64_w, i32_w]
                                                  rfl
                                                refine pure_ (i := 2) (N := some 84) (v := ?_) (a' := ?_) #[true, true, true, false, false, false, false, false, false, false, false, false, false, false, false, false, false, false, false, false, false, false] rfl rfl (any_of HT_.out (by kernel_rfl)) (fun _ _ _ h => h) (Or.inl ⟨by rfl, ?_⟩) ?_ ?_
                                                rotate_left
                                                · intro w'
                                                  go_simp
                                                  with_reducible rfl
                                                rotate_left
                                                · simp only [Act.put, List.setIfInBounds_toArray, List.set_cons_zero, List.set_cons_succ, i64_w, i32_w]
                                                  rfl
                                                refine pure_ (i := 4) (N := some 86) (v := ?_) (a' := ?_) #[true, true, true, false, true, false, false, false, false, false, false, false, false, false, false, false, false, false, false, false, false, false] rfl rfl (any_of HT_.out (by kernel_rfl)) (fun _ _ _ h => h) (Or.inl ⟨by rfl, ?_⟩) ?_ ?_
                                                rotate_left
                                                · intro w'
                                                  go_simp
                                                  with_reducible rfl
                                                rotate_left
                                                · simp only [Act.put, List.setIfInBounds_toArray, List.set_cons_zero, List.set_cons_succ, i64_w, i32_w]
                                                  rfl
                                                refine pure_ (i := 5) (N := some 87) (v := ?_) (a' := ?_) #[true, true, true, false, true, true, false, false, false, false, false, false, false, false, false, false, false, false, false, false, false, false] rfl rfl (any_of HT_.out (by kernel_rfl)) (fun _ _ _ h => h) (Or.inl ⟨by rfl, ?_⟩) ?_ ?_
                                                rotate_left
                                                · intro w'
                                                  go_simp
                                                  with_reducible rfl
                                                rotate_left
                                                · simp only [Act.put, List.setIfInBounds_toArray, List.set_cons_zero, List.set_cons_succ, i64_w, i32_w]
                                                  rfl
                                                refine pure_ (i := 6) (N := some 88) (v := ?_) (a' := ?_) #[true, true, true, false, true, true, true, false, false, false, false, false, false, false, false, false, false, false, false, false, false, false] rfl rfl (any_of HT_.out (by kernel_rfl)) (fun _ _ _ h => h) (Or.inl ⟨by rfl, ?_⟩) ?_ ?_
                                                rotate_left
                                                · intro w'
                                                  go_simp
                                                  with_reducible rfl
                                                rotate_left
                                                · simp only [Act.put, List.setIfInBounds_toArray, List.set_cons_zero, List.set_cons_succ, i64_w, i32_w]
                                                  rfl
                                                refine pure_ (i := 7) (N := some 89) (v := ?_) (a' := ?_) #[true, true, true, false, true, true, true, true, false, false, false, false, false, false, false, false, false, false, false, false, false, false] rfl rfl (any_of HT_.out (by kernel_rfl)) (fun _ _ _ h => h) (Or.inl ⟨by rfl, ?_⟩) ?_ ?_
                                                rotate_left
                                                · intro w'
                                                  go_simp
                                                  with_reducible rfl
                                                rotate_left
                                                · simp only [Act.put, List.setIfInBounds_toArray, List.set_cons_zero, List.set_cons_succ, i64_w, i32_w]
                                                  rfl
                                                refine take_ (i := 3) (N := some 85) (v := ?_) (a' := ?_) #[true, true, true, true, true, true, true, true, false, false, false, false, false, false, false, false, false, false, false, false, false, false] rfl rfl (take_ofW HT_.out HW_.out (by kernel_rfl)) (fun _ _ _ h => h) (Or.inl ⟨by rfl, ?_⟩) hHeld ?_ ?_
                                                rotate_left
                                                · rintro w' ⟨s0, s1, s2, s3, s4⟩
                                                  go_simp
                                                  with_reducible rfl
                                                rotate_left
                                                · simp only [Act.put, List.setIfInBounds_toArray, List.set_cons_zero, List.set_cons_succ, i64_w, i32_w]
                                                  rfl
                                                refine take_ (i := 8) (N := some 90) (v := ?_) (a' := ?_) #[true, true, true, true, true, true, true, true, true, false, false, false, false, false, false, false, false, false, false, false, false, false] rfl rfl (take_ofW HT_.out HW_.out (by kernel_rfl)) (fun _ _ _ h => h) (Or.inl ⟨by rfl, ?_⟩) hHeld ?_ ?_
                                                rotate_left
                                                · rintro w' ⟨s0, s1, s2, s3, s4⟩
                                                  go_simp
                                                  with_reducible rfl
                                                rotate_left
                                                · simp only [Act.put, List.setIfInBounds_toArray, List.set_cons_zero, List.set_cons_succ, i64_w, i32_w]
                                                  rfl
                                                refine pure_ (i := 9) (N := some 91) (v := ?_) (a' := ?_) #[true, true, true, true, true, true, true, true, true, true, false, false, false, false, false, false, false, false, false, false, false, false] rfl rfl (any_of HT_.out (by kernel_rfl)) (fun _ _ _ h => h) (Or.inl ⟨by rfl, ?_⟩) ?_ ?_
                                                rotate_left
                                                · intro w'
                                                  go_simp
                                                  with_reducible rfl
                                                rotate_left
                                                · simp only [Act.put, List.setIfInBounds_toArray, List.set_cons_zero, List.set_cons_succ, i64_w, i32_w]
                                                  rfl
                                                refine take_ (i := 10) (N := some 92) (v := ?_) (a' := ?_) #[true, true, true, true, true, true, true, true, true, true, true, false, false, false, false, false, false, false, false, false, false, false] rfl rfl (take_ofW HT_.out HW_.out (by kernel_rfl)) (fun _ _ _ h => h) (Or.inl ⟨by rfl, ?_⟩) hHeld ?_ ?_
                                                rotate_left
                                                · rintro w' ⟨s0, s1, s2, s3, s4⟩
                                                  go_simp
                                                  with_reducible rfl
                                                rotate_left
                                                · simp only [Act.put, List.setIfInBounds_toArray, List.set_cons_zero, List.set_cons_succ, i64_w, i32_w]
                                                  rfl
                                                refine one_ (i := 11) (N := some 93) #[true, true, true, true, true, true, true, true, true, true, true, true, false, false, false, false, false, false, false, false, false, false] rfl rfl (one_of HT_.out (by kernel_rfl)) (by decide) (fun K hK => ?_)
                                                refine goes_ Try.func25 (by kernel_rfl) rfl #[.agg #[.int .i64 t208, .slice Ao82 t209.length co82], .agg #[.int .i64 ((rd_T40 l0 (rd x8_4 x11_31)).f0), .slice A218_1 ((rd_T40 l0 (rd x8_4 x11_31)).f1).length c218_1]] (by rfl) rfl rfl (by (try simp only [List.map_toArray, List.map_cons, List.map_nil]); first | done | rfl | (simp only [List.length_drop, List.length_take]; rfl)) ?_
                                                with_reducible refine (thrumref21_One.calls t208 _ _ t209 ((rd_T40 l0 (rd x8_4 x11_31)).f0) _ _ ((rd_T40 l0 (rd x8_4 x11_31)).f1) false _ ?side1 ?side2 ?side3 ?side4 A43.out).mono ?_
                                                (case side1 => repeat (first | exact (Kd.V_reads' HO211.out).2.2 | (with_reducible refine Kd.C_alloc ?_ _) | (with_reducible refine Kd.C_drewN ?_ _) | (with_reducible refine Kd.C_drew ?_)))
                                                (case side2 => exact (Kd.V_reads' HO211.out).2.1)
                                                (case side3 => repeat (first | exact (Kd.C_below HR218_1.out HB.out) | (with_reducible refine Kd.C_alloc ?_ _) | (with_reducible refine Kd.C_drewN ?_ _) | (with_reducible refine Kd.C_drew ?_)))
                                                (case side4 => exact HC218_1.out)
                                                rintro e w86 ⟨rfl, hb⟩
                                                have HS2_ := (hb.cell (World.block_lt_of_cell? _ _ (hHeld.2.2.1))).trans (hHeld.2.2.1)
                                                refine ⟨_, rfl, ?_⟩
                                                have n0_ := Aside0.mk (Kd.N_below (by (with_reducible repeat (first | apply Kd.N_alloc | apply Kd.N_drewN | apply Kd.N_drew)); exact HO_6.out) hb)
                                                have n1_ := Aside0.mk (Kd.R_below (by (with_reducible repeat (first | apply Kd.R_alloc | apply Kd.R_drewN | apply Kd.R_drew)); exact HO_8.out) hb)
                                                have n2_ := Aside0.mk (Kd.V_below (by (with_reducible repeat (first | apply Kd.V_alloc | apply Kd.V_drewN | apply Kd.V_drew)); exact HO211.out) hb)
                                                have n3_ := Aside0.mk (Kd.N_below (by (with_reducible repeat (first | apply Kd.N_alloc | apply Kd.N_drewN | apply Kd.N_drew)); exact HO214.out) hb)
                                                have n4_ := Aside0.mk (blk_below (g := gb216) (o := .cells #[.int .i64 t208, .slice Ao82 t209.length co82] 40 (0, 0)) (by (with_reducible repeat (first | refine blk_drewN ?_ _ | refine blk_drew ?_ | refine blk_alloc ?_ _)); exact BK216.out) hb)
                                                have n5_ := Aside0.mk (below_step (by repeat (first | (with_reducible first | exact HB.out | apply below_alloc | apply pw_below_drewN | apply below_drew1 | refine below_set ?_ GE216.out) | exact HB.out)) hb)
                                                clear HO_6
                                                clear HO_8
                                                clear HO211
                                                clear HO214
                                                clear BK216
                                                clear HB
                                                have HO_6 := n0_
                                                have HO_8 := n1_
                                                have HO211 := n2_
                                                have HO214 := n3_
                                                have BK216 := n4_
                                                have HB := n5_
                                                clear n0_ n1_ n2_ n3_ n4_ n5_
                                                (try clear hb)
                                                (try clear hb2)
                                                (try clear hk)
                                                (try clear hi)
                                                refine hK.out _ _ ⟨(blk_cell BK216.out 0).trans rfl, (blk_cell BK216.out 1).trans rfl, HS2_, ((HB.out.cell (World.block_lt_of_cell? w _ hw218_0)).trans hw218_0), ((HB.out.cell (World.block_lt_of_cell? w _ hw218_1)).trans hw218_1)⟩ (fun hHeld => ?_)
                                                clear hK K
                                                refine norm_ (a' := ?_) ?_ ?_
                                                rotate_left
                                                · show Act.put _ (some 93) _ = _
                                                  simp only [Act.put, List.setIfInBounds_toArray, List.set_cons_zero, List.set_cons_succ, i64_w, i32_w]
                                                  rfl
                                                refine pure_ (i := 12) (N := some 94) (v := ?_) (a' := ?_) #[true, true, true, true, true, true, true, true, true, true, true, true, true, false, false, false, false, false, false, false, false, false] rfl rfl (any_of HT_.out (by kernel_rfl)) (fun _ _ _ h => h) (Or.inl ⟨by rfl, ?_⟩) ?_ ?_
                                                rotate_left
                                                · intro w'
                                                  go_simp
                                                  with_reducible rfl
                                                rotate_left
                                                · simp only [Act.put, List.setIfInBounds_toArray, List.set_cons_zero, List.set_cons_succ, i64_w, i32_w]
                                                  rfl
                                                refine pure_ (i := 13) (N := some 95) (v := ?_) (a' := ?_) #[true, true, true, true, true, true, true, true, true, true, true, true, true, true, false, false, false, false, false, false, false, false] rfl rfl (any_of HT_.out (by kernel_rfl)) (fun _ _ _ h => h) (Or.inl ⟨by rfl, ?_⟩) ?_ ?_
                                                rotate_left
                                                · intro w'
                                                  go_simp
                                                  with_reducible rfl
                                                rotate_left
                                                · simp only [Act.put, List.setIfInBounds_toArray, List.set_cons_zero, List.set_cons_succ, i64_w, i32_w]
                                                  rfl
                                                refine pure_ (i := 14) (N := some 96) (v := ?_) (a' := ?_) #[true, true, true, true, true, true, true, true, true, true, true, true, true, true, true, false, false, false, false, false, false, false] rfl rfl (any_of HT_.out (by kernel_rfl)) (fun _ _ _ h => h) (Or.inl ⟨by rfl, ?_⟩) ?_ ?_
                                                rotate_left
                                                · intro w'
                                                  go_simp
                                                  with_reducible rfl
                                                rotate_left
                                                · simp only [Act.put, List.setIfInBounds_toArray, List.set_cons_zero, List.set_cons_succ, i64_w, i32_w]
                                                  rfl
                                                refine pure_ (i := 15) (N := some 97) (v := undef) (a' := ?_) #[true, true, true, true, true, true, true, true, true, true, true, true, true, true, true, true, false, false, false, false, false, false] rfl rfl (any_of HT_.out (by kernel_rfl)) (fun _ _ _ h => h) (Or.inr ⟨by rfl, rfl⟩) ?_ ?_
                                                rotate_left
                                                · simp only [Act.put, List.setIfInBounds_toArray, List.set_cons_zero, List.set_cons_succ, i64_w, i32_w]
                                                  rfl
                                                refine pure_ (i := 16) (N := some 98) (v := undef) (a' := ?_) #[true, true, true, true, true, true, true, true, true, true, true, true, true, true, true, true, true, false, false, false, false, false] rfl rfl (any_of HT_.out (by kernel_rfl)) (fun _ _ _ h => h) (Or.inr ⟨by rfl, rfl⟩) ?_ ?_
                                                rotate_left
                                                · simp only [Act.put, List.setIfInBounds_toArray, List.set_cons_zero, List.set_cons_succ, i64_w, i32_w]
                                                  rfl
                                                refine pure_ (i := 17) (N := some 99) (v := undef) (a' := ?_) #[true, true, true, true, true, true, true, true, true, true, true, true, true, true, true, true, true, true, false, false, false, false] rfl rfl (any_of HT_.out (by kernel_rfl)) (fun _ _ _ h => h) (Or.inr ⟨by rfl, rfl⟩) ?_ ?_
                                                rotate_left
                                                · simp only [Act.put, List.setIfInBounds_toArray, List.set_cons_zero, List.set_cons_succ, i64_w, i32_w]
                                                  rfl
                                                refine pure_ (i := 18) (N := some 100) (v := undef) (a' := ?_) #[true, true, true, true, true, true, true, true, true, true, true, true, true, true, true, true, true, true, true, false, false, false] rfl rfl (any_of HT_.out (by kernel_rfl)) (fun _ _ _ h => h) (Or.inr ⟨by rfl, rfl⟩) ?_ ?_
                                                rotate_left
                                                · simp only [Act.put, List.setIfInBounds_toArray, List.set_cons_zero, List.set_cons_succ, i64_w, i32_w]
                                                  rfl
                                                refine pure_ (i := 19) (N := some 101) (v := undef) (a' := ?_) #[true, true, true, true, true, true, true, true, true, true, true, true, true, true, true, true, true, true, true, true, false, false] rfl rfl (any_of HT_.out (by kernel_rfl)) (fun _ _ _ h => h) (Or.inr ⟨by rfl, rfl⟩) ?_ ?_
                                                rotate_left
                                                · simp only [Act.put, List.setIfInBounds_toArray, List.set_cons_zero, List.set_cons_succ, i64_w, i32_w]
                                                  rfl
                                                refine pure_ (i := 20) (N := some 102) (v := undef) (a' := ?_) #[true, true, true, true, true, true, true, true, true, true, true, true, true, true, true, true, true, true, true, true, true, false] rfl rfl (any_of HT_.out (by kernel_rfl)) (fun _ _ _ h => h) (Or.inr ⟨by rfl, rfl⟩) ?_ ?_
                                                rotate_left
                                                · simp only [Act.put, List.setIfInBounds_toArray, List.set_cons_zero, List.set_cons_succ, i64_w, i32_w]
                                                  rfl
                                                refine pure_ (i := 21) (N := some 103) (v := ?_) (a' := ?_) #[true, true, true, true, true, true, true, true, true, true, true, true, true, true, true, true, true, true, true, true, true, true] rfl rfl (any_of HT_.out (by kernel_rfl)) (fun _ _ _ h => h) (Or.inl ⟨by rfl, ?_⟩) ?_ ?_
                                                rotate_left
                                                · intro w'
                                                  go_simp
                                                  with_reducible rfl
                                                rotate_left
                                                · simp only [Act.put, List.setIfInBounds_toArray, List.set_cons_zero, List.set_cons_succ, i64_w, i32_w]
                                                  rfl
                                                refine done_ (done_of HT_.out (by kernel_rfl)) ?_
                                                try go_wp2
                                                go_ret
                                                exact ⟨by first | rfl | (simp [errW_none, errW_some] <;> rfl) | (simp [*, errW_none, errW_some] <;> rfl), by repeat (first | (with_reducible first | exact HB.out | apply below_alloc | apply pw_below_drewN | apply below_drew1 | refine below_set ?_ GE216.out) | exact HB.out)⟩
                                            · rw [if_neg c42] at H
                                              exact absurd H (by simp)
                                          · rw [if_neg c41] at H
                                            exact absurd H (by simp)
                                        · rw [if_neg c40] at H
                                          exact absurd H (by simp)
                                      · rw [if_neg c39] at H
                                        exact absurd H (by simp)
                                    · rw [if_neg c38] at H
                                      have c38b0 : (t215 == 0) = false := beq_eq_false_iff_ne.mpr c38
                                      have c38b1 : (t215 != 0) = true := bne_iff_ne.mpr c38
                                      obtain rfl := Option.some.inj H
                                      obtain ⟨Ao87, co87, eo87⟩ := Kd.N_slice HO_6.out
                                      subst eo87
                                      try go_wp2_with (first | ((with_reducible refine gate_callee (f := 24) rfl ?_); refine goesL_ (some 78) rfl rfl Try.func24 (by kernel_rfl) rfl #[.slice Ao87 x6_4.length co87, .int .i64 x11_31] rfl (by (try simp only [List.map_toArray, List.map_cons, List.map_nil]); first | done | rfl | (simp only [List.length_drop, List.length_take]; rfl)) ?_; (with_reducible refine (net_Give.calls kj31 _ _ x6_4 x11_31 t208 t209 t212 t215 _ ?side1 ?side2 A37.out).mono ?_); (case side1 => repeat (first | exact (Kd.N_reads' HO_6.out).2.2 | (with_reducible refine Kd.C_alloc ?_ _) | (with_reducible refine Kd.C_drewN ?_ _) | (with_reducible refine Kd.C_drew ?_))); (case side2 => exact (Kd.N_reads' HO_6.out).2.1); rintro e w88 ⟨v210, v213, rfl, ho0, ho1, hb⟩; refine ⟨_, rfl, ?_⟩; have n0_ := Aside0.mk (Kd.N_elder' (by (with_reducible repeat (first | apply Kd.N_alloc | apply Kd.N_drewN | apply Kd.N_drew)); exact HO_6.out) (Kd.N_base ho1) hb); have n1_ := Aside0.mk (Kd.R_below (by (with_reducible repeat (first | apply Kd.R_alloc | apply Kd.R_drewN | apply Kd.R_drew)); exact HO_8.out) hb); have n2_ := Aside0.mk (Kd.V_lower (Kd.V_mono (ok' := fun k_ => some k_ ≠ (v213 : Value).ownBlock ∧ some k_ ≠ (.slice Ao87 x6_4.length co87 : Value).ownBlock ∧ some k_ ≠ (u8 : Value).ownBlock) ho0 (fun k_ hk_ => ⟨hk_.2, (Kd.fresh' (Kd.N_lt (by (with_reducible repeat (first | apply Kd.N_alloc | apply Kd.N_drewN | apply Kd.N_drew)); exact HO_6.out)) k_ hk_.1), (Kd.fresh' (Kd.R_lt (by (with_reducible repeat (first | apply Kd.R_alloc | apply Kd.R_drewN | apply Kd.R_drew)); exact HO_8.out)) k_ hk_.1)⟩)) (below_size (by repeat (first | (with_reducible first | exact HB.out | apply below_alloc | apply pw_below_drewN | apply below_drew1) | exact HB.out)))); have n3_ := Aside0.mk (Kd.N_lower (Kd.N_mono (ok' := fun k_ => some k_ ≠ (.slice Ao87 x6_4.length co87 : Value).ownBlock ∧ some k_ ≠ (u8 : Value).ownBlock) ho1 (fun k_ hk_ => ⟨(Kd.fresh' (Kd.N_lt (by (with_reducible repeat (first | apply Kd.N_alloc | apply Kd.N_drewN | apply Kd.N_drew)); exact HO_6.out)) k_ hk_), (Kd.fresh' (Kd.R_lt (by (with_reducible repeat (first | apply Kd.R_alloc | apply Kd.R_drewN | apply Kd.R_drew)); exact HO_8.out)) k_ hk_)⟩)) (below_size (by repeat (first | (with_reducible first | exact HB.out | apply below_alloc | apply pw_below_drewN | apply below_drew1) | exact HB.out)))); have n4_ := Aside0.mk (below_step (by repeat (first | (with_reducible first | exact HB.out | apply below_alloc | apply pw_below_drewN | apply below_drew1) | exact HB.out)) hb); clear HO_6; clear HO_8; clear HB; have HO_6 := n0_; have HO_8 := n1_; have HO211 := n2_; have HO214 := n3_; have HB := n4_; clear n0_ n1_ n2_ n3_ n4_; (try clear hb); (try clear hb2); (try clear hk); (try clear hi); (try clear ho0); (try clear ho1)) | ((with_reducible refine gate_dst (N := 12) rfl ?_); (try (refine gate_guard (by rfl) ?_; dsimp only)); refine box_event ?hg (N := 12) ?hd (cs := #[.int .i64 0, .slice none 0 0]) (t := 40) ?hr ?_; (case hd => rfl); (case hg => rfl); (case hr => first | (go_simp; done) | (go_simp; rfl)); intro gb216 hg w89 hbox hb; have n0_ := Aside0.mk (Kd.N_below (Kd.N_elderB (by (with_reducible repeat (first | apply Kd.N_alloc | apply Kd.N_drewN | apply Kd.N_drew)); exact HO_6.out) gb216 (Nat.le_of_eq hg.symm)) hb); have n1_ := Aside0.mk (Kd.R_below (by (with_reducible repeat (first | apply Kd.R_alloc | apply Kd.R_drewN | apply Kd.R_drew)); exact HO_8.out) hb); have n2_ := Aside0.mk (Kd.V_below (Kd.V_elderB (by (with_reducible repeat (first | apply Kd.V_alloc | apply Kd.V_drewN | apply Kd.V_drew)); exact HO211.out) gb216 (Nat.le_of_eq hg.symm)) hb); have n3_ := Aside0.mk (Kd.N_below (Kd.N_elderB (by (with_reducible repeat (first | apply Kd.N_alloc | apply Kd.N_drewN | apply Kd.N_drew)); exact HO214.out) gb216 (Nat.le_of_eq hg.symm)) hb); have n4_ := Aside0.mk (below_step (by repeat (first | (with_reducible first | exact HB.out | apply below_alloc | apply pw_below_drewN | apply below_drew1) | exact HB.out)) hb); have n5_ := Aside0.mk (hbox); have n6_ := Aside0.mk ((by rw [hg]; exact (below_size (by repeat (first | (with_reducible first | exact HB.out | apply below_alloc | apply pw_below_drewN | apply below_drew1) | exact HB.out))) : w.heap.size ≤ gb216)); have n7_ := Aside0.mk ((by rw [hg]; exact (below_size (by repeat (first | (with_reducible first | exact HB.out | apply below_alloc | apply pw_below_drewN | apply below_drew1) | exact HB.out))) : w.heap.size ≤ gb216)); clear HO_6; clear HO_8; clear HO211; clear HO214; clear HB; have HO_6 := n0_; have HO_8 := n1_; have HO211 := n2_; have HO214 := n3_; have HB := n4_; have BK216 := n5_; have GW216 := n6_; have GE216 := n7_; clear n0_ n1_ n2_ n3_ n4_ n5_ n6_ n7_; clear hb hbox hg; have hcz90_0 : w89.cell? ⟨gb216, 0, none⟩ = some (.int .i64 0) := (blk_cell BK216.out 0).trans rfl; have hcz90_1 : w89.cell? ⟨gb216, 1, none⟩ = some (.slice none 0 0) := (blk_cell BK216.out 1).trans rfl; have hfz90_0 := blk_frozen BK216.out 0; have hfz90_1 := blk_frozen BK216.out 1; obtain ⟨Ao91, co91, eo91⟩ := Kd.V_slice HO211.out; subst eo91))
                                      have n0_ : Aside0 (Kd.N k40 40 ((w89.setCell ⟨gb216, 0, none⟩ (.int .i64 t208)).setCell ⟨gb216, 1, none⟩ (.slice Ao91 t209.length co91)) w.heap.size (fun k_ => some k_ ≠ (u8 : Value).ownBlock ∧ some k_ ≠ (v213 : Value).ownBlock ∧ k_ ≠ gb216) (.slice Ao87 x6_4.length co87) x6_4) := ⟨by (with_reducible repeat (first | apply Kd.N_alloc | apply Kd.N_drewN | apply Kd.N_drew)); exact Kd.N_mono (Kd.N_far (p := ⟨gb216, 1, none⟩) (Kd.N_far (p := ⟨gb216, 0, none⟩) (Kd.N_mono HO_6.out (fun k_ hk => (⟨hk, hk.2⟩ : _ ∧ k_ ≠ gb216))) (fun _ hk => hk.2) (.int .i64 t208)) (fun _ hk => hk.2) (.slice Ao91 t209.length co91)) (fun _ hk => ⟨hk.1.1.1, ⟨hk.1.1.2, hk.1.2⟩⟩)⟩
                                      have n1_ : Aside0 (Kd.R (Kd.int .i64) 3 ((w89.setCell ⟨gb216, 0, none⟩ (.int .i64 t208)).setCell ⟨gb216, 1, none⟩ (.slice Ao91 t209.length co91)) w.heap.size (fun _ => True) u8 x8_4) := ⟨by (with_reducible repeat (first | apply Kd.R_alloc | apply Kd.R_drewN | apply Kd.R_drew)); exact Kd.R_mono (Kd.R_far (p := ⟨gb216, 1, none⟩) (Kd.R_far (p := ⟨gb216, 0, none⟩) (Kd.R_types HO_8.out BK216.out (by decide)) (fun _ hk => hk.2) (.int .i64 t208)) (fun _ hk => hk.2) (.slice Ao91 t209.length co91)) (fun _ hk => trivial)⟩
                                      have n2_ : Aside0 (Kd.V (Kd.int .u8) 5 ((w89.setCell ⟨gb216, 0, none⟩ (.int .i64 t208)).setCell ⟨gb216, 1, none⟩ (.slice Ao91 t209.length co91)) w.heap.size (fun k_ => some k_ ≠ (.slice Ao87 x6_4.length co87 : Value).ownBlock ∧ some k_ ≠ (u8 : Value).ownBlock ∧ some k_ ≠ (v213 : Value).ownBlock ∧ k_ ≠ gb216) (.slice Ao91 t209.length co91) t209) := ⟨by (with_reducible repeat (first | apply Kd.V_alloc | apply Kd.V_drewN | apply Kd.V_drew)); exact Kd.V_mono (Kd.V_far (p := ⟨gb216, 1, none⟩) (Kd.V_far (p := ⟨gb216, 0, none⟩) (Kd.V_mono HO211.out (fun k_ hk => (⟨hk, hk.2⟩ : _ ∧ k_ ≠ gb216))) (fun _ hk => hk.2) (.int .i64 t208)) (fun _ hk => hk.2) (.slice Ao91 t209.length co91)) (fun _ hk => ⟨hk.1.1.2.1, ⟨hk.1.1.2.2, ⟨hk.1.1.1, hk.1.2⟩⟩⟩)⟩
                                      have n3_ : Aside0 (Kd.N k40 40 ((w89.setCell ⟨gb216, 0, none⟩ (.int .i64 t208)).setCell ⟨gb216, 1, none⟩ (.slice Ao91 t209.length co91)) w.heap.size (fun k_ => some k_ ≠ (.slice Ao87 x6_4.length co87 : Value).ownBlock ∧ some k_ ≠ (u8 : Value).ownBlock ∧ k_ ≠ gb216) v213 t212) := ⟨by (with_reducible repeat (first | apply Kd.N_alloc | apply Kd.N_drewN | apply Kd.N_drew)); exact Kd.N_mono (Kd.N_far (p := ⟨gb216, 1, none⟩) (Kd.N_far (p := ⟨gb216, 0, none⟩) (Kd.N_mono HO214.out (fun k_ hk => (⟨hk, hk.2⟩ : _ ∧ k_ ≠ gb216))) (fun _ hk => hk.2) (.int .i64 t208)) (fun _ hk => hk.2) (.slice Ao91 t209.length co91)) (fun _ hk => ⟨hk.1.1.1, ⟨hk.1.1.2, hk.1.2⟩⟩)⟩
                                      have n4_ : Aside0 (((w89.setCell ⟨gb216, 0, none⟩ (.int .i64 t208)).setCell ⟨gb216, 1, none⟩ (.slice Ao91 t209.length co91)).heap[gb216]? = some (.cells #[.int .i64 t208, .slice Ao91 t209.length co91] 40 (0, 0))) := ⟨by (with_reducible repeat (first | refine blk_drewN ?_ _ | refine blk_drew ?_ | refine blk_alloc ?_ _)); refine blk_put (cs := #[.int .i64 t208, .slice none 0 0]) ?_ 1 _ rfl; (with_reducible repeat (first | refine blk_drewN ?_ _ | refine blk_drew ?_ | refine blk_alloc ?_ _)); refine blk_put (cs := #[.int .i64 0, .slice none 0 0]) ?_ 0 _ rfl; (with_reducible repeat (first | refine blk_drewN ?_ _ | refine blk_drew ?_ | refine blk_alloc ?_ _)); exact BK216.out⟩
                                      have n5_ : Aside0 (Below w.heap.size w ((w89.setCell ⟨gb216, 0, none⟩ (.int .i64 t208)).setCell ⟨gb216, 1, none⟩ (.slice Ao91 t209.length co91))) := ⟨by repeat (first | (with_reducible first | exact HB.out | apply below_alloc | apply pw_below_drewN | apply below_drew1 | refine below_set ?_ GE216.out) | exact HB.out)⟩
                                      (try clear HO_6)
                                      (try clear HO_8)
                                      (try clear HO211)
                                      (try clear HO214)
                                      (try clear BK216)
                                      (try clear HB)
                                      generalize ((w89.setCell ⟨gb216, 0, none⟩ (.int .i64 t208)).setCell ⟨gb216, 1, none⟩ (.slice Ao91 t209.length co91)) = w92 at n0_ n1_ n2_ n3_ n4_ n5_ ⊢
                                      have HO_6 := n0_
                                      have HO_8 := n1_
                                      have HO211 := n2_
                                      have HO214 := n3_
                                      have BK216 := n4_
                                      have HB := n5_
                                      clear n0_ n1_ n2_ n3_ n4_ n5_
                                      have n0_ := Aside0.mk (Kd.N_drew HO_6.out)
                                      have n1_ := Aside0.mk (Kd.R_drew HO_8.out)
                                      have n2_ := Aside0.mk (Kd.V_drew HO211.out)
                                      have n3_ := Aside0.mk (Kd.N_drew HO214.out)
                                      have n4_ := Aside0.mk (blk_drew BK216.out)
                                      have n5_ := Aside0.mk (below_drew1 HB.out)
                                      clear HO_6
                                      clear HO_8
                                      clear HO211
                                      clear HO214
                                      clear BK216
                                      clear HB
                                      have HO_6 := n0_
                                      have HO_8 := n1_
                                      have HO211 := n2_
                                      have HO214 := n3_
                                      have BK216 := n4_
                                      have HB := n5_
                                      clear n0_ n1_ n2_ n3_ n4_ n5_
                                      refine start_ (n := 22) (S := fun w' => True) (ds := []) #[false, false, false, false, false, false, false, false, false, false, false, false, false, false, false, false, false, false, false, false, false, false] (by kernel_rfl) rfl rfl trivial (fun hHeld => ?_); refine with_tabW thrumlaw21_NetGives.tab22 thrumlaw21_NetGives.bits22 (fun HT_ HW_ => ?_)
                                      generalize w92.drew = w93 at HO_6 HO_8 HO211 HO214 BK216 HB hHeld ⊢
                                      refine pure_ (i := 0) (N := some 82) (v := ?_) (a' := ?_) #[true, false, false, false, false, false, false, false, false, false, false, false, false, false, false, false, false, false, false, false, false, false] rfl rfl (any_of HT_.out (by kernel_rfl)) (fun _ _ _ h => h) (Or.inl ⟨by rfl, ?_⟩) ?_ ?_
                                      rotate_left
                                      · intro w'
                                        go_simp
                                        with_reducible rfl
                                      rotate_left
                                      · simp only [Act.put, List.setIfInBounds_toArray, List.set_cons_zero, List.set_cons_succ, i64_w, i32_w]
                                        rfl
                                      refine pure_ (i := 1) (N := some 83) (v := ?_) (a' := ?_) #[true, true, false, false, false, false, false, false, false, false, false, false, false, false, false, false, false, false, false, false, false, false] rfl rfl (any_of HT_.out (by kernel_rfl)) (fun _ _ _ h => h) (Or.inl ⟨by rfl, ?_⟩) ?_ ?_
                                      rotate_left
                                      · intro w'
                                        go_simp
                                        with_reducible rfl
                                      rotate_left
                                      · simp only [Act.put, List.setIfInBounds_toArray, List.set_cons_zero, List.set_cons_succ, i64_w, i32_w]
                                        rfl
                                      refine pure_ (i := 2) (N := some 84) (v := ?_) (a' := ?_) #[true, true, true, false, false, false, false, false, false, false, false, false, false, false, false, false, false, false, false, false, false, false] rfl rfl (any_of HT_.out (by kernel_rfl)) (fun _ _ _ h => h) (Or.inl ⟨by rfl, ?_⟩) ?_ ?_
                                      rotate_left
                                      · intro w'
                                        go_simp
                                        with_reducible rfl
                                      rotate_left
                                      · simp only [Act.put, List.setIfInBounds_toArray, List.set_cons_zero, List.set_cons_succ, i64_w, i32_w]
                                        rfl
                                      refine pure_ (i := 3) (N := some 85) (v := undef) (a' := ?_) #[true, true, true, true, false, false, false, false, false, false, false, false, false, false, false, false, false, false, false, false, false, false] rfl rfl (any_of HT_.out (by kernel_rfl)) (fun _ _ _ h => h) (Or.inr ⟨by rfl, rfl⟩) ?_ ?_
                                      rotate_left
                                      · simp only [Act.put, List.setIfInBounds_toArray, List.set_cons_zero, List.set_cons_succ, i64_w, i32_w]
                                        rfl
                                      refine pure_ (i := 4) (N := some 86) (v := undef) (a' := ?_) #[true, true, true, true, true, false, false, false, false, false, false, false, false, false, false, false, false, false, false, false, false, false] rfl rfl (any_of HT_.out (by kernel_rfl)) (fun _ _ _ h => h) (Or.inr ⟨by rfl, rfl⟩) ?_ ?_
                                      rotate_left
                                      · simp only [Act.put, List.setIfInBounds_toArray, List.set_cons_zero, List.set_cons_succ, i64_w, i32_w]
                                        rfl
                                      refine pure_ (i := 5) (N := some 87) (v := undef) (a' := ?_) #[true, true, true, true, true, true, false, false, false, false, false, false, false, false, false, false, false, false, false, false, false, false] rfl rfl (any_of HT_.out (by kernel_rfl)) (fun _ _ _ h => h) (Or.inr ⟨by rfl, rfl⟩) ?_ ?_
                                      rotate_left
                                      · simp only [Act.put, List.setIfInBounds_toArray, List.set_cons_zero, List.set_cons_succ, i64_w, i32_w]
                                        rfl
                                      refine pure_ (i := 6) (N := some 88) (v := undef) (a' := ?_) #[true, true, true, true, true, true, true, false, false, false, false, false, false, false, false, false, false, false, false, false, false, false] rfl rfl (any_of HT_.out (by kernel_rfl)) (fun _ _ _ h => h) (Or.inr ⟨by rfl, rfl⟩) ?_ ?_
                                      rotate_left
                                      · simp only [Act.put, List.setIfInBounds_toArray, List.set_cons_zero, List.set_cons_succ, i64_w, i32_w]
                                        rfl
                                      refine pure_ (i := 7) (N := some 89) (v := undef) (a' := ?_) #[true, true, true, true, true, true, true, true, false, false, false, false, false, false, false, false, false, false, false, false, false, false] rfl rfl (any_of HT_.out (by kernel_rfl)) (fun _ _ _ h => h) (Or.inr ⟨by rfl, rfl⟩) ?_ ?_
                                      rotate_left
                                      · simp only [Act.put, List.setIfInBounds_toArray, List.set_cons_zero, List.set_cons_succ, i64_w, i32_w]
                                        rfl
                                      refine pure_ (i := 8) (N := some 90) (v := undef) (a' := ?_) #[true, true, true, true, true, true, true, true, true, false, false, false, false, false, false, false, false, false, false, false, false, false] rfl rfl (any_of HT_.out (by kernel_rfl)) (fun _ _ _ h => h) (Or.inr ⟨by rfl, rfl⟩) ?_ ?_
                                      rotate_left
                                      · simp only [Act.put, List.setIfInBounds_toArray, List.set_cons_zero, List.set_cons_succ, i64_w, i32_w]
                                        rfl
                                      refine pure_ (i := 9) (N := some 91) (v := undef) (a' := ?_) #[true, true, true, true, true, true, true, true, true, true, false, false, false, false, false, false, false, false, false, false, false, false] rfl rfl (any_of HT_.out (by kernel_rfl)) (fun _ _ _ h => h) (Or.inr ⟨by rfl, rfl⟩) ?_ ?_
                                      rotate_left
                                      · simp only [Act.put, List.setIfInBounds_toArray, List.set_cons_zero, List.set_cons_succ, i64_w, i32_w]
                                        rfl
                                      refine pure_ (i := 10) (N := some 92) (v := undef) (a' := ?_) #[true, true, true, true, true, true, true, true, true, true, true, false, false, false, false, false, false, false, false, false, false, false] rfl rfl (any_of HT_.out (by kernel_rfl)) (fun _ _ _ h => h) (Or.inr ⟨by rfl, rfl⟩) ?_ ?_
                                      rotate_left
                                      · simp only [Act.put, List.setIfInBounds_toArray, List.set_cons_zero, List.set_cons_succ, i64_w, i32_w]
                                        rfl
                                      refine pure_ (i := 11) (N := some 93) (v := undef) (a' := ?_) #[true, true, true, true, true, true, true, true, true, true, true, true, false, false, false, false, false, false, false, false, false, false] rfl rfl (any_of HT_.out (by kernel_rfl)) (fun _ _ _ h => h) (Or.inr ⟨by rfl, rfl⟩) ?_ ?_
                                      rotate_left
                                      · simp only [Act.put, List.setIfInBounds_toArray, List.set_cons_zero, List.set_cons_succ, i64_w, i32_w]
                                        rfl
                                      refine pure_ (i := 12) (N := some 94) (v := undef) (a' := ?_) #[true, true, true, true, true, true, true, true, true, true, true, true, true, false, false, false, false, false, false, false, false, false] rfl rfl (any_of HT_.out (by kernel_rfl)) (fun _ _ _ h => h) (Or.inr ⟨by rfl, rfl⟩) ?_ ?_
                                      rotate_left
                                      · simp only [Act.put, List.setIfInBounds_toArray, List.set_cons_zero, List.set_cons_succ, i64_w, i32_w]
                                        rfl
                                      refine pure_ (i := 13) (N := some 95) (v := ?_) (a' := ?_) #[true, true, true, true, true, true, true, true, true, true, true, true, true, true, false, false, false, false, false, false, false, false] rfl rfl (any_of HT_.out (by kernel_rfl)) (fun _ _ _ h => h) (Or.inl ⟨by rfl, ?_⟩) ?_ ?_
                                      rotate_left
                                      · intro w'
                                        go_simp
                                        with_reducible rfl
                                      rotate_left
                                      · simp only [Act.put, List.setIfInBounds_toArray, List.set_cons_zero, List.set_cons_succ, i64_w, i32_w]
                                        rfl
                                      refine pure_ (i := 14) (N := some 96) (v := ?_) (a' := ?_) #[true, true, true, true, true, true, true, true, true, true, true, true, true, true, true, false, false, false, false, false, false, false] rfl rfl (any_of HT_.out (by kernel_rfl)) (fun _ _ _ h => h) (Or.inl ⟨by rfl, ?_⟩) ?_ ?_
                                      rotate_left
                                      · intro w'
                                        go_simp
                                        with_reducible rfl
                                      rotate_left
                                      · simp only [Act.put, List.setIfInBounds_toArray, List.set_cons_zero, List.set_cons_succ, i64_w, i32_w]
                                        rfl
                                      refine pure_ (i := 15) (N := some 97) (v := undef) (a' := ?_) #[true, true, true, true, true, true, true, true, true, true, true, true, true, true, true, true, false, false, false, false, false, false] rfl rfl (any_of HT_.out (by kernel_rfl)) (fun _ _ _ h => h) (Or.inr ⟨by rfl, rfl⟩) ?_ ?_
                                      rotate_left
                                      · simp only [Act.put, List.setIfInBounds_toArray, List.set_cons_zero, List.set_cons_succ, i64_w, i32_w]
                                        rfl
                                      refine pure_ (i := 16) (N := some 98) (v := undef) (a' := ?_) #[true, true, true, true, true, true, true, true, true, true, true, true, true, true, true, true, true, false, false, false, false, false] rfl rfl (any_of HT_.out (by kernel_rfl)) (fun _ _ _ h => h) (Or.inr ⟨by rfl, rfl⟩) ?_ ?_
                                      rotate_left
                                      · simp only [Act.put, List.setIfInBounds_toArray, List.set_cons_zero, List.set_cons_succ, i64_w, i32_w]
                                        rfl
                                      refine pure_ (i := 17) (N := some 99) (v := undef) (a' := ?_) #[true, true, true, true, true, true, true, true, true, true, true, true, true, true, true, true, true, true, false, false, false, false] rfl rfl (any_of HT_.out (by kernel_rfl)) (fun _ _ _ h => h) (Or.inr ⟨by rfl, rfl⟩) ?_ ?_
                                      rotate_left
                                      · simp only [Act.put, List.setIfInBounds_toArray, List.set_cons_zero, List.set_cons_succ, i64_w, i32_w]
                                        rfl
                                      refine pure_ (i := 18) (N := some 100) (v := undef) (a' := ?_) #[true, true, true, true, true, true, true, true, true, true, true, true, true, true, true, true, true, true, true, false, false, false] rfl rfl (any_of HT_.out (by kernel_rfl)) (fun _ _ _ h => h) (Or.inr ⟨by rfl, rfl⟩) ?_ ?_
                                      rotate_left
                                      · simp only [Act.put, List.setIfInBounds_toArray, List.set_cons_zero, List.set_cons_succ, i64_w, i32_w]
                                        rfl
                                      refine pure_ (i := 19) (N := some 101) (v := undef) (a' := ?_) #[true, true, true, true, true, true, true, true, true, true, true, true, true, true, true, true, true, true, true, true, false, false] rfl rfl (any_of HT_.out (by kernel_rfl)) (fun _ _ _ h => h) (Or.inr ⟨by rfl, rfl⟩) ?_ ?_
                                      rotate_left
                                      · simp only [Act.put, List.setIfInBounds_toArray, List.set_cons_zero, List.set_cons_succ, i64_w, i32_w]
                                        rfl
                                      refine pure_ (i := 20) (N := some 102) (v := undef) (a' := ?_) #[true, true, true, true, true, true, true, true, true, true, true, true, true, true, true, true, true, true, true, true, true, false] rfl rfl (any_of HT_.out (by kernel_rfl)) (fun _ _ _ h => h) (Or.inr ⟨by rfl, rfl⟩) ?_ ?_
                                      rotate_left
                                      · simp only [Act.put, List.setIfInBounds_toArray, List.set_cons_zero, List.set_cons_succ, i64_w, i32_w]
                                        rfl
                                      refine pure_ (i := 21) (N := some 103) (v := ?_) (a' := ?_) #[true, true, true, true, true, true, true, true, true, true, true, true, true, true, true, true, true, true, true, true, true, true] rfl rfl (any_of HT_.out (by kernel_rfl)) (fun _ _ _ h => h) (Or.inl ⟨by rfl, ?_⟩) ?_ ?_
                                      rotate_left
                                      · intro w'
                                        go_simp
                                        with_reducible rfl
                                      rotate_left
                                      · simp only [Act.put, List.setIfInBounds_toArray, List.set_cons_zero, List.set_cons_succ, i64_w, i32_w]
                                        rfl
                                      refine done_ (done_of HT_.out (by kernel_rfl)) ?_
                                      try go_wp2
                                      go_ret
                                      exact ⟨by first | rfl | (simp [errW_none, errW_some] <;> rfl) | (simp [*, errW_none, errW_some] <;> rfl), by repeat (first | (with_reducible first | exact HB.out | apply below_alloc | apply pw_below_drewN | apply below_drew1 | refine below_set ?_ GE216.out) | exact HB.out)⟩
                              · rw [if_neg c31] at H
                                have c31b0 : decide (x55_4 < (l0.length : Int)) = false := decide_eq_false c31
                                (try rw [hl8_3] at c31b0)
                                clear c31
                                by_cases c94 : true = true
                                · clear c94
                                  have H1 : (some ((x6_4.length : Int) == 0)) = some r := by first | (rw [if_pos rfl] at H; exact H) | (rw [if_pos True.intro] at H; exact H)
                                  clear H
                                  have H := H1
                                  clear H1
                                  obtain rfl := Option.some.inj H
                                  obtain ⟨Ao95, co95, eo95⟩ := Kd.N_slice HO_6.out
                                  subst eo95
                                  go_wp2
                                  go_ret
                                  exact ⟨by first | rfl | (simp [errW_none, errW_some] <;> rfl) | (simp [*, errW_none, errW_some] <;> rfl), by repeat (first | (with_reducible first | exact HB.out | apply below_alloc | apply pw_below_drewN | apply below_drew1) | exact HB.out)⟩
                                · exact absurd rfl c94
                  · rw [if_neg c21] at H
                    exact absurd H (by simp)
                · rw [if_neg c20] at H
                  exact absurd H (by simp)
  · replace c4 := Bool.eq_false_iff.mpr c4
    subst c4
    have H1 : (some false) = some r := by rw [if_neg (show ¬ (false = true) by decide)] at H; exact H
    clear H
    have H := H1
    clear H1
    obtain rfl := Option.some.inj H
    go_enter Try.func4, Try.ntmps4
    go_wp2_with (first | ((with_reducible refine gate_callee (f := 20) rfl ?_); refine goesL_ (some 15) rfl rfl Try.func20 (by kernel_rfl) rfl #[] rfl (by (try simp only [List.map_toArray, List.map_cons, List.map_nil]); first | done | rfl | (simp only [List.length_drop, List.length_take]; rfl)) ?_; (with_reducible refine (thrumlaw21_live.calls k  false _ A3.out).mono ?_); rintro e w96 ⟨rfl, hb⟩; refine ⟨_, rfl, ?_⟩; have n0_ := Aside0.mk (below_step (by repeat (first | (with_reducible first | exact HB.out | apply below_alloc | apply pw_below_drewN | apply below_drew1) | exact HB.out)) hb); clear HB; have HB := n0_; clear n0_; (try clear hb); (try clear hb2); (try clear hk); (try clear hi)))
    go_ret
    exact ⟨by first | rfl | (simp [errW_none, errW_some] <;> rfl) | (simp [*, errW_none, errW_some] <;> rfl), by repeat (first | (with_reducible first | exact HB.out | apply below_alloc | apply pw_below_drewN | apply below_drew1) | exact HB.out)⟩

end Go.Proofs.Ytlppmamhbpcfcaa.MNet
