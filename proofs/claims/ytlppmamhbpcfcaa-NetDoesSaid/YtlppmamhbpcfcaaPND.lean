/- Functions that the laws use, each as a plain Lean function, with the proof that the Go code comes to just that; no conditions beyond those typed. -/
import Derived.Test.YtlppmamhbpcfcaaNetDel
import Derived.Test.YtlppmamhbpcfcaaPNA
namespace Go.Proofs.Ytlppmamhbpcfcaa.MNet
open Go.RowKit Go.Proofs.YtlppmamhbpcfcaaW.PrintWords Go.Proofs.YtlppmamhbpcfcaaW.PrintLast Go.Proofs.YtlppmamhbpcfcaaW.PrintMore
attribute [local go_sem] max2_int min2_int max_two min_two max_three min_three max_four min_four   -- for this text's walks alone
set_option linter.unusedVariables false
set_option linter.unusedSimpArgs false

/-! ### net_Swap: function 38 -/
theorem gadd (g i : Nat) : (⟨g, 0, none⟩ : Addr).add i = ⟨g, i, none⟩ := by unfold Addr.add; split <;> simp_all
def net_Swap.f (k : Nat) (l0 : List (S40)) (a1 : Int) (a2 : Int) : Option ((List (S40)) × Int) := (net_copied.f k l0).bind fun t275 => ((net_at.f k l0 (([a1, a2] : List Int))).bind fun t281 => (if t281 = true then (if 0 ≤ a1 then (if a1 < (t275.length : Int) then (if 0 ≤ a2 then (if a2 < (t275.length : Int) then (some (((t275.set (a1 : Int).toNat (⟨(rd_T40 t275 a2).f0, (rd_T40 t275 a2).f1⟩ : S40)).set (a2 : Int).toNat (⟨(rd_T40 t275 a1).f0, (rd_T40 t275 a1).f1⟩ : S40)), 0)) else (none)) else (none)) else (none)) else (none)) else (some (t275, 1))))
theorem net_Swap.mono : ∀ a0 a1 a2 k, LeO (net_Swap.f k a0 a1 a2) (net_Swap.f (k + 1) a0 a1 a2) := by
  intro a0 a1 a2 k
  unfold net_Swap.f
  repeat' first
      | (with_reducible exact net_at.mono _ _ _)
      | (with_reducible exact net_copied.mono _ _)
      | (with_reducible exact LeO.refl _)
      | (with_reducible exact LeO.none _)
      | (with_reducible refine LeO.ite ?_ ?_)
      | (with_reducible refine LeO.bind ?_ (fun _ => ?_))
      | exact net_at.mono _ _ _
      | exact net_copied.mono _ _
      | exact LeO.none _
      | refine LeO.ite ?_ ?_
      | refine LeO.bind ?_ (fun _ => ?_)
set_option maxHeartbeats 8000000 in
set_option maxRecDepth 100000 in
theorem net_Swap.calls (k : Nat) (A0 : Option Addr) (c0 : Nat) (l0 : List (S40)) (a1 : Int) (a2 : Int) (r1 : List (S40)) (r2 : Int) (w : World) (hr0 : Kd.C k40 w A0 l0.length l0) (hc0 : l0.length ≤ c0) (h : net_Swap.f k l0 a1 a2 = some (r1, r2)) :
    Calls Try.prog 38 #[.slice A0 l0.length c0, .int .i64 a1, .int .i64 a2] w fun e w' => ∃ v0_ : Value, e = .returned (.tuple #[v0_, .int .i64 r2]) ∧ Kd.N k40 40 w' w.heap.size (fun k_ => (w.heap.size ≤ k_)) v0_ r1 ∧ Below w.heap.size w w' := by
  have hu40 := Try.underlying40
  have HR0 := Aside0.mk hr0
  have HC0 := Aside0.mk hc0
  clear hr0 hc0
  have HB := Aside0.mk (Below.refl w.heap.size w)
  have H : ((net_copied.f k l0).bind fun t275 => ((net_at.f k l0 (([a1, a2] : List Int))).bind fun t281 => (if t281 = true then (if 0 ≤ a1 then (if a1 < (t275.length : Int) then (if 0 ≤ a2 then (if a2 < (t275.length : Int) then (some (((t275.set (a1 : Int).toNat (⟨(rd_T40 t275 a2).f0, (rd_T40 t275 a2).f1⟩ : S40)).set (a2 : Int).toNat (⟨(rd_T40 t275 a1).f0, (rd_T40 t275 a1).f1⟩ : S40)), 0)) else (none)) else (none)) else (none)) else (none)) else (some (t275, 1))))) = some (r1, r2) := h
  clear h
  replace H := Option.bind_eq_some_iff.mp H
  obtain ⟨t275, A40, H⟩ := H
  replace H : ((net_at.f k l0 (([a1, a2] : List Int))).bind fun t281 => (if t281 = true then (if 0 ≤ a1 then (if a1 < (t275.length : Int) then (if 0 ≤ a2 then (if a2 < (t275.length : Int) then (some (((t275.set (a1 : Int).toNat (⟨(rd_T40 t275 a2).f0, (rd_T40 t275 a2).f1⟩ : S40)).set (a2 : Int).toNat (⟨(rd_T40 t275 a1).f0, (rd_T40 t275 a1).f1⟩ : S40)), 0)) else (none)) else (none)) else (none)) else (none)) else (some (t275, 1)))) = some (r1, r2) := H
  have A4 := Aside0.mk A40
  clear A40
  obtain ⟨y278, hy278⟩ : ∃ y_ : List Int, y_ = (([a1, a2] : List Int)) := ⟨_, rfl⟩
  replace H : ((net_at.f k l0 y278).bind fun t281 => (if t281 = true then (if 0 ≤ a1 then (if a1 < (t275.length : Int) then (if 0 ≤ a2 then (if a2 < (t275.length : Int) then (some (((t275.set (a1 : Int).toNat (⟨(rd_T40 t275 a2).f0, (rd_T40 t275 a2).f1⟩ : S40)).set (a2 : Int).toNat (⟨(rd_T40 t275 a1).f0, (rd_T40 t275 a1).f1⟩ : S40)), 0)) else (none)) else (none)) else (none)) else (none)) else (some (t275, 1)))) = some (r1, r2) := by first | (rw [hy278]; with_reducible exact H) | (have H2_ := (Option.bind_some _ _).symm.trans H; rw [hy278]; with_reducible exact H2_) | (have H2_ := (Option.bind_some _ _).symm.trans H; with_reducible exact H2_) | with_reducible exact H | (rw [hy278]; exact H) | exact H
  have Ny278 := Aside0.mk hy278
  clear hy278
  replace H := Option.bind_eq_some_iff.mp H
  obtain ⟨t281, A50, H⟩ := H
  replace H : (if t281 = true then (if 0 ≤ a1 then (if a1 < (t275.length : Int) then (if 0 ≤ a2 then (if a2 < (t275.length : Int) then (some (((t275.set (a1 : Int).toNat (⟨(rd_T40 t275 a2).f0, (rd_T40 t275 a2).f1⟩ : S40)).set (a2 : Int).toNat (⟨(rd_T40 t275 a1).f0, (rd_T40 t275 a1).f1⟩ : S40)), 0)) else (none)) else (none)) else (none)) else (none)) else (some (t275, 1))) = some (r1, r2) := H
  have A5 := Aside0.mk A50
  clear A50
  by_cases c6 : t281 = true
  · subst c6
    have H1 : (if 0 ≤ a1 then (if a1 < (t275.length : Int) then (if 0 ≤ a2 then (if a2 < (t275.length : Int) then (some (((t275.set (a1 : Int).toNat (⟨(rd_T40 t275 a2).f0, (rd_T40 t275 a2).f1⟩ : S40)).set (a2 : Int).toNat (⟨(rd_T40 t275 a1).f0, (rd_T40 t275 a1).f1⟩ : S40)), 0)) else (none)) else (none)) else (none)) else (none)) = some (r1, r2) := by first | (rw [if_pos rfl] at H; exact H) | (rw [if_pos True.intro] at H; exact H)
    clear H
    have H := H1
    clear H1
    by_cases c7 : 0 ≤ a1
    · rw [if_pos c7] at H
      have c7b0 : decide (0 ≤ a1) = true := decide_eq_true c7
      clear c7
      by_cases c8 : a1 < (t275.length : Int)
      · rw [if_pos c8] at H
        have c8b0 : decide (a1 < (t275.length : Int)) = true := decide_eq_true c8
        clear c8
        by_cases c9 : 0 ≤ a2
        · rw [if_pos c9] at H
          have c9b0 : decide (0 ≤ a2) = true := decide_eq_true c9
          clear c9
          by_cases c10 : a2 < (t275.length : Int)
          · rw [if_pos c10] at H
            have c10b0 : decide (a2 < (t275.length : Int)) = true := decide_eq_true c10
            clear c10
            obtain ⟨y285, hy285⟩ : ∃ y_ : List (S40), y_ = (t275.set (a1 : Int).toNat (⟨(rd_T40 t275 a2).f0, (rd_T40 t275 a2).f1⟩ : S40)) := ⟨_, rfl⟩
            replace H : (some ((y285.set (a2 : Int).toNat (⟨(rd_T40 t275 a1).f0, (rd_T40 t275 a1).f1⟩ : S40)), 0)) = some (r1, r2) := by first | (rw [hy285]; with_reducible exact H) | (have H2_ := (Option.bind_some _ _).symm.trans H; rw [hy285]; with_reducible exact H2_) | (have H2_ := (Option.bind_some _ _).symm.trans H; with_reducible exact H2_) | with_reducible exact H | (rw [hy285]; exact H) | exact H
            have Ny285 := Aside0.mk hy285
            clear hy285
            obtain ⟨y286, hy286⟩ : ∃ y_ : List (S40), y_ = (y285.set (a2 : Int).toNat (⟨(rd_T40 t275 a1).f0, (rd_T40 t275 a1).f1⟩ : S40)) := ⟨_, rfl⟩
            replace H : (some (y286, 0)) = some (r1, r2) := by first | (rw [hy286]; with_reducible exact H) | (have H2_ := (Option.bind_some _ _).symm.trans H; rw [hy286]; with_reducible exact H2_) | (have H2_ := (Option.bind_some _ _).symm.trans H; with_reducible exact H2_) | with_reducible exact H | (rw [hy286]; exact H) | exact H
            have Ny286 := Aside0.mk hy286
            clear hy286
            simp only [Option.some.injEq, Prod.mk.injEq] at H
            obtain ⟨rfl, rfl⟩ := H
            go_enter Try.func38, Try.ntmps38
            try go_wp2_with (first | ((with_reducible refine gate_callee (f := 59) rfl ?_); refine goesL_ (some 10) rfl rfl Try.func59 (by kernel_rfl) rfl #[.slice A0 l0.length c0] rfl (by (try simp only [List.map_toArray, List.map_cons, List.map_nil]); first | done | rfl | (simp only [List.length_drop, List.length_take]; rfl)) ?_; (with_reducible refine (net_copied.calls k _ _ l0 t275 _ ?side1 ?side2 A4.out).mono ?_); (case side1 => repeat (first | exact HR0.out | (with_reducible refine Kd.C_alloc ?_ _) | (with_reducible refine Kd.C_drewN ?_ _) | (with_reducible refine Kd.C_drew ?_))); (case side2 => exact HC0.out); rintro e w13 ⟨v276, rfl, ho0, hb⟩; refine ⟨_, rfl, ?_⟩; have n0_ := Aside0.mk (Kd.N_lower (Kd.N_mono (ok' := fun k_ => (w.heap.size ≤ k_)) (Kd.S_N (Kd.S_bound ho0)) (fun k_ hk_ => (Nat.le_trans (below_size (by repeat (first | (with_reducible first | exact HB.out | apply below_alloc | apply pw_below_drewN | apply below_drew1) | exact HB.out))) hk_.2.1))) (below_size (by repeat (first | (with_reducible first | exact HB.out | apply below_alloc | apply pw_below_drewN | apply below_drew1) | exact HB.out)))); have n1_ := Aside0.mk (below_step (by repeat (first | (with_reducible first | exact HB.out | apply below_alloc | apply pw_below_drewN | apply below_drew1) | exact HB.out)) hb); clear HB; have HO277 := n0_; have HB := n1_; clear n0_ n1_; (try clear hb); (try clear hb2); (try clear hk); (try clear hi); (try clear ho0)) | ((with_reducible refine gate_dst (N := 14) rfl ?_); refine Kd.R_lit (Kd.int .i64) _ 3 ?hg (N := 14) ?hd (xs := ([a1, a2] : List Int)) (inner := [.int .i64 a1, .int .i64 a2]) (ok := fun _ => True) (okp := fun _ => True) ?hr ?hp (fun _ hk => hk) trivial (Below.refl _ _) (Nat.le_refl _) (by simp) ?_; (case hd => rfl); (case hg => rfl); (case hr => first | (go_simp; done) | (go_simp; rfl)); (case hp => exact (Reps.one (show Kd.M (Kd.int .i64) _ _ _ a1 [.int .i64 a1] from rfl) (Reps.one (show Kd.M (Kd.int .i64) _ _ _ a2 [.int .i64 a2] from rfl) (Reps.none _ _)))); intro v279 w14 ho15 hb hg_ hnew_; clear hg_ hnew_; (first | rw [← Ny278.out] at ho15 | (simp only [Int.reduceToNat] at ho15; rw [← Ny278.out] at ho15)); have n0_ := Aside0.mk (Kd.N_elder' (by (with_reducible repeat (first | apply Kd.N_alloc | apply Kd.N_drewN | apply Kd.N_drew)); exact HO277.out) (Kd.R_base ho15) hb); have n1_ := Aside0.mk (Kd.R_lower (Kd.R_newM (M := fun k_ => (w.heap.size ≤ k_)) ho15 (below_size (by repeat (first | (with_reducible first | exact HB.out | apply below_alloc | apply pw_below_drewN | apply below_drew1) | exact HB.out))) (fun k_ h_ => h_)) (below_size (by repeat (first | (with_reducible first | exact HB.out | apply below_alloc | apply pw_below_drewN | apply below_drew1) | exact HB.out)))); have n2_ := Aside0.mk (below_step (by repeat (first | (with_reducible first | exact HB.out | apply below_alloc | apply pw_below_drewN | apply below_drew1) | exact HB.out)) hb); clear HO277; clear HB; have HO277 := n0_; have HO280 := n1_; have HB := n2_; clear n0_ n1_ n2_; clear hb ho15; obtain ⟨Ao16, co16, eo16⟩ := Kd.R_slice HO280.out; subst eo16) | ((with_reducible refine gate_callee (f := 60) rfl ?_); refine goesL_ (some 15) rfl rfl Try.func60 (by kernel_rfl) rfl #[.slice A0 l0.length c0, .slice Ao16 y278.length co16] rfl (by (try simp only [List.map_toArray, List.map_cons, List.map_nil]); first | done | rfl | (simp only [List.length_drop, List.length_take]; rfl)) ?_; (with_reducible refine (net_at.calls k _ _ l0 _ _ y278 true _ ?side1 ?side2 ?side3 ?side4 A5.out).mono ?_); (case side1 => repeat (first | exact (Kd.C_below HR0.out HB.out) | (with_reducible refine Kd.C_alloc ?_ _) | (with_reducible refine Kd.C_drewN ?_ _) | (with_reducible refine Kd.C_drew ?_))); (case side2 => exact HC0.out); (case side3 => repeat (first | exact (Kd.R_reads' HO280.out).2.2 | (with_reducible refine Kd.C_alloc ?_ _) | (with_reducible refine Kd.C_drewN ?_ _) | (with_reducible refine Kd.C_drew ?_))); (case side4 => exact (Kd.R_reads' HO280.out).2.1); rintro e w17 ⟨rfl, hb⟩; refine ⟨_, rfl, ?_⟩; have n0_ := Aside0.mk (Kd.N_below (by (with_reducible repeat (first | apply Kd.N_alloc | apply Kd.N_drewN | apply Kd.N_drew)); exact HO277.out) hb); have n1_ := Aside0.mk (Kd.R_below (by (with_reducible repeat (first | apply Kd.R_alloc | apply Kd.R_drewN | apply Kd.R_drew)); exact HO280.out) hb); have n2_ := Aside0.mk (below_step (by repeat (first | (with_reducible first | exact HB.out | apply below_alloc | apply pw_below_drewN | apply below_drew1) | exact HB.out)) hb); clear HO277; clear HO280; clear HB; have HO277 := n0_; have HO280 := n1_; have HB := n2_; clear n0_ n1_ n2_; (try clear hb); (try clear hb2); (try clear hk); (try clear hi); obtain ⟨Ao18, co18, eo18⟩ := Kd.N_slice HO277.out; subst eo18; have HOg := Aside0.mk (Kd.N_mono (ok' := fun k_ => w.heap.size ≤ k_) HO277.out (fun k_ hk => hk.1)); clear HO277 HO280))
            have p1 := eq_true (of_decide_eq_true c7b0)
            have q1 := eq_true (of_decide_eq_true c8b0)
            have p2 := eq_true (of_decide_eq_true c9b0)
            have q2 := eq_true (of_decide_eq_true c10b0)
            obtain ⟨ad, _, _, ead, _, _, _, _⟩ := at_T40 (Kd.N_reads' HOg.out).2.2 a1 (of_eq_true p1) (of_eq_true q1)
            subst ead
            obtain ⟨go, hgo⟩ := N_head HOg.out
            subst hgo
            have HO := Aside0.mk (Kd.N_drew HOg.out)
            have HB0 := Aside0.mk (below_drew1 HB.out)
            clear HOg HB
            have HB := HB0
            clear HB0
            generalize hw18 : w17.drew = w18 at HO HB
            obtain ⟨ce1, hce1, hM1, hcc1⟩ := Kd.N_get HO.out z40 a1 (of_eq_true p1) (of_eq_true q1)
            obtain ⟨A1, e1, rfl, _, _⟩ := k40_openF hM1
            obtain ⟨ce2, hce2, hM2, hcc2⟩ := Kd.N_get HO.out z40 a2 (of_eq_true p2) (of_eq_true q2)
            obtain ⟨A2, e2, rfl, _, _⟩ := k40_openF hM2
            have hx1_0 : w18.cell? ⟨go, a1.toNat * 2, none⟩ = some (.int .i64 (rd_T40 t275 a1).f0) := by have := hcc1 0 _ rfl; rw [gadd] at this; exact this
            have hx1_1 : w18.cell? ⟨go, a1.toNat * 2 + 1, none⟩ = some (.slice A1 (rd_T40 t275 a1).f1.length e1) := by have := hcc1 1 _ rfl; rw [gadd] at this; exact this
            have hx2_0 : w18.cell? ⟨go, a2.toNat * 2, none⟩ = some (.int .i64 (rd_T40 t275 a2).f0) := by have := hcc2 0 _ rfl; rw [gadd] at this; exact this
            have hx2_1 : w18.cell? ⟨go, a2.toNat * 2 + 1, none⟩ = some (.slice A2 (rd_T40 t275 a2).f1.length e2) := by have := hcc2 1 _ rfl; rw [gadd] at this; exact this
            obtain ⟨cur0, hcur0, _, _, _⟩ := N_cells HO.out
            have hf1_0 : w18.frozen? ⟨go, a1.toNat * 2, none⟩ = false := blk_frozen hcur0 _
            have hf1_1 : w18.frozen? ⟨go, a1.toNat * 2 + 1, none⟩ = false := blk_frozen hcur0 _
            clear hcur0
            refine start_ (n := 16) (S := fun w' => w'.cell? ⟨go, a2.toNat * 2, none⟩ = some (.int .i64 (rd_T40 t275 a2).f0) ∧ w'.cell? ⟨go, a2.toNat * 2 + 1, none⟩ = some (.slice A2 (rd_T40 t275 a2).f1.length e2) ∧ w'.cell? ⟨go, a1.toNat * 2, none⟩ = some (.int .i64 (rd_T40 t275 a1).f0) ∧ w'.cell? ⟨go, a1.toNat * 2 + 1, none⟩ = some (.slice A1 (rd_T40 t275 a1).f1.length e1)) (ds := [13, 15]) #[false, false, false, false, false, false, false, false, false, false, false, false, false, false, false, false] (by kernel_rfl) rfl rfl (by rw [hw18]; exact ⟨hx2_0, hx2_1, hx1_0, hx1_1⟩) (fun hHeld => ?_)
            rw [hw18] at hHeld ⊢
            refine pure_ (i := 0) (N := some 18) (v := ?_) (a' := ?_) #[true, false, false, false, false, false, false, false, false, false, false, false, false, false, false, false] rfl rfl (by kernel_rfl) (fun _ _ _ h => h) (Or.inl ⟨by rfl, ?_⟩) ?_ ?_
            rotate_left
            · intro w'
              go_simp
              with_reducible rfl
            rotate_left
            · simp only [Act.put, List.setIfInBounds_toArray, List.set_cons_zero, List.set_cons_succ, i64_w, i32_w]
              rfl
            refine pure_ (i := 1) (N := some 19) (v := ?_) (a' := ?_) #[true, true, false, false, false, false, false, false, false, false, false, false, false, false, false, false] rfl rfl (by kernel_rfl) (fun _ _ _ h => h) (Or.inl ⟨by rfl, ?_⟩) ?_ ?_
            rotate_left
            · intro w'
              go_simp
              with_reducible rfl
            rotate_left
            · simp only [Act.put, List.setIfInBounds_toArray, List.set_cons_zero, List.set_cons_succ, i64_w, i32_w]
              rfl
            refine pure_ (i := 2) (N := some 20) (v := ?_) (a' := ?_) #[true, true, true, false, false, false, false, false, false, false, false, false, false, false, false, false] rfl rfl (by kernel_rfl) (fun _ _ _ h => h) (Or.inl ⟨by rfl, ?_⟩) ?_ ?_
            rotate_left
            · intro w'
              go_simp
              with_reducible rfl
            rotate_left
            · simp only [Act.put, List.setIfInBounds_toArray, List.set_cons_zero, List.set_cons_succ, i64_w, i32_w]
              rfl
            refine pure_ (i := 3) (N := some 21) (v := ?_) (a' := ?_) #[true, true, true, true, false, false, false, false, false, false, false, false, false, false, false, false] rfl rfl (by kernel_rfl) (fun _ _ _ h => h) (Or.inl ⟨by rfl, ?_⟩) ?_ ?_
            rotate_left
            · intro w'
              go_simp
              with_reducible rfl
            rotate_left
            · simp only [Act.put, List.setIfInBounds_toArray, List.set_cons_zero, List.set_cons_succ, i64_w, i32_w]
              rfl
            refine pure_ (i := 4) (N := some 22) (v := ?_) (a' := ?_) #[true, true, true, true, true, false, false, false, false, false, false, false, false, false, false, false] rfl rfl (by kernel_rfl) (fun _ _ _ h => h) (Or.inl ⟨by rfl, ?_⟩) ?_ ?_
            rotate_left
            · intro w'
              go_simp
              with_reducible rfl
            rotate_left
            · simp only [Act.put, List.setIfInBounds_toArray, List.set_cons_zero, List.set_cons_succ, i64_w, i32_w]
              rfl
            refine pure_ (i := 5) (N := some 23) (v := ?_) (a' := ?_) #[true, true, true, true, true, true, false, false, false, false, false, false, false, false, false, false] rfl rfl (by kernel_rfl) (fun _ _ _ h => h) (Or.inl ⟨by rfl, ?_⟩) ?_ ?_
            rotate_left
            · intro w'
              go_simp
              with_reducible rfl
            rotate_left
            · simp only [Act.put, List.setIfInBounds_toArray, List.set_cons_zero, List.set_cons_succ, i64_w, i32_w]
              rfl
            refine pure_ (i := 6) (N := some 24) (v := ?_) (a' := ?_) #[true, true, true, true, true, true, true, false, false, false, false, false, false, false, false, false] rfl rfl (by kernel_rfl) (fun _ _ _ h => h) (Or.inl ⟨by rfl, ?_⟩) ?_ ?_
            rotate_left
            · intro w'
              go_simp
              with_reducible rfl
            rotate_left
            · simp only [Act.put, List.setIfInBounds_toArray, List.set_cons_zero, List.set_cons_succ, i64_w, i32_w]
              rfl
            refine pure_ (i := 8) (N := some 26) (v := ?_) (a' := ?_) #[true, true, true, true, true, true, true, false, true, false, false, false, false, false, false, false] rfl rfl (by kernel_rfl) (fun _ _ _ h => h) (Or.inl ⟨by rfl, ?_⟩) ?_ ?_
            rotate_left
            · intro w'
              go_simp
              with_reducible rfl
            rotate_left
            · simp only [Act.put, List.setIfInBounds_toArray, List.set_cons_zero, List.set_cons_succ, i64_w, i32_w]
              rfl
            refine pure_ (i := 9) (N := some 27) (v := ?_) (a' := ?_) #[true, true, true, true, true, true, true, false, true, true, false, false, false, false, false, false] rfl rfl (by kernel_rfl) (fun _ _ _ h => h) (Or.inl ⟨by rfl, ?_⟩) ?_ ?_
            rotate_left
            · intro w'
              go_simp
              with_reducible rfl
            rotate_left
            · simp only [Act.put, List.setIfInBounds_toArray, List.set_cons_zero, List.set_cons_succ, i64_w, i32_w]
              rfl
            refine pure_ (i := 10) (N := some 28) (v := ?_) (a' := ?_) #[true, true, true, true, true, true, true, false, true, true, true, false, false, false, false, false] rfl rfl (by kernel_rfl) (fun _ _ _ h => h) (Or.inl ⟨by rfl, ?_⟩) ?_ ?_
            rotate_left
            · intro w'
              go_simp
              with_reducible rfl
            rotate_left
            · simp only [Act.put, List.setIfInBounds_toArray, List.set_cons_zero, List.set_cons_succ, i64_w, i32_w]
              rfl
            refine take_ (i := 7) (N := some 25) (v := ?_) (a' := ?_) #[true, true, true, true, true, true, true, true, true, true, true, false, false, false, false, false] rfl rfl (by kernel_rfl) (fun _ _ _ h => h) (Or.inl ⟨by rfl, ?_⟩) hHeld ?_ ?_
            rotate_left
            · rintro w' ⟨s0, s1, s2, s3⟩
              go_simp
              with_reducible rfl
            rotate_left
            · simp only [Act.put, List.setIfInBounds_toArray, List.set_cons_zero, List.set_cons_succ, i64_w, i32_w]
              rfl
            refine take_ (i := 11) (N := some 29) (v := ?_) (a' := ?_) #[true, true, true, true, true, true, true, true, true, true, true, true, false, false, false, false] rfl rfl (by kernel_rfl) (fun _ _ _ h => h) (Or.inl ⟨by rfl, ?_⟩) hHeld ?_ ?_
            rotate_left
            · rintro w' ⟨s0, s1, s2, s3⟩
              go_simp
              with_reducible rfl
            rotate_left
            · simp only [Act.put, List.setIfInBounds_toArray, List.set_cons_zero, List.set_cons_succ, i64_w, i32_w]
              rfl
            refine pure_ (i := 12) (N := some 30) (v := ?_) (a' := ?_) #[true, true, true, true, true, true, true, true, true, true, true, true, true, false, false, false] rfl rfl (by kernel_rfl) (fun _ _ _ h => h) (Or.inl ⟨by rfl, ?_⟩) ?_ ?_
            rotate_left
            · intro w'
              go_simp
              with_reducible rfl
            rotate_left
            · simp only [Act.put, List.setIfInBounds_toArray, List.set_cons_zero, List.set_cons_succ, i64_w, i32_w]
              rfl
            refine last_ (i := 13) (N := none) #[true, true, true, true, true, true, true, true, true, true, true, true, true, true, false, false] rfl rfl (by kernel_rfl) (by decide) (fun K hK => ?_)
            refine skip_ (w1 := ?_) (by rfl) rfl ?_ ?_
            rotate_left
            · go_simp
              rfl
            refine hK.out _ _ ?_
            clear hK K
            obtain ⟨hN1, hG1⟩ := Kd.N_seg HO.out a1 (of_eq_true p1) (of_eq_true q1) (seg := [(.int .i64 (rd_T40 t275 a2).f0), (.slice A2 (rd_T40 t275 a2).f1.length e2)]) (j := 0) hce1 (fun j u hu => by have h_ := hcc1 j u hu; rw [gadd] at h_; exact h_) (show 0 + 2 ≤ 2 from Nat.le_refl 2) (x' := rd_T40 t275 a2) (okp := fun k_ => w.heap.size ≤ k_ ∧ some k_ ≠ (.slice (some ⟨go, 0, none⟩) t275.length co18 : Value).ownBlock) (show Kd.FK k40 _ _ _ _ from hM2) (fun k_ hk => ⟨hk.1, fun he => hk.2 (by rw [he]; rfl)⟩)
            have HN1 := Aside0.mk (show Kd.N k40 40 ((w18.setCell ⟨go, a1.toNat * 2, none⟩ (.int .i64 (rd_T40 t275 a2).f0)).setCell ⟨go, a1.toNat * 2 + 1, none⟩ (.slice A2 (rd_T40 t275 a2).f1.length e2)) w.heap.size (fun k_ => w.heap.size ≤ k_) (.slice (some ⟨go, 0, none⟩) t275.length co18) (t275.set a1.toNat (rd_T40 t275 a2)) from hN1)
            have HB1 := Aside0.mk (show Below w.heap.size w ((w18.setCell ⟨go, a1.toNat * 2, none⟩ (.int .i64 (rd_T40 t275 a2).f0)).setCell ⟨go, a1.toNat * 2 + 1, none⟩ (.slice A2 (rd_T40 t275 a2).f1.length e2)) from pw_below_grown HB.out (some go) HB.out.size hG1 (fun k hk => by injection hk with hk; rw [← hk]; exact Kd.N_base HO.out go rfl))
            have HM1 := Aside0.mk (show Kd.FK k40 ((w18.setCell ⟨go, a1.toNat * 2, none⟩ (.int .i64 (rd_T40 t275 a2).f0)).setCell ⟨go, a1.toNat * 2 + 1, none⟩ (.slice A2 (rd_T40 t275 a2).f1.length e2)) (fun k_ => w.heap.size ≤ k_ ∧ some k_ ≠ (.slice (some ⟨go, 0, none⟩) t275.length co18 : Value).ownBlock) (rd_T40 t275 a1) [(.int .i64 (rd_T40 t275 a1).f0), (.slice A1 (rd_T40 t275 a1).f1.length e1)] from Kd.FK_step hM1 (fun k_ hk hlt => hG1.block k_ hlt (fun he => hk.2 (by rw [he]; rfl))))
            clear hN1 hG1 HO HB hM1 hM2 hcc1 hcc2 hce1 hce2 hHeld hx1_0 hx1_1 hx2_0 hx2_1 hf1_0 hf1_1
            generalize ((w18.setCell ⟨go, a1.toNat * 2, none⟩ (.int .i64 (rd_T40 t275 a2).f0)).setCell ⟨go, a1.toNat * 2 + 1, none⟩ (.slice A2 (rd_T40 t275 a2).f1.length e2)) = w19 at HN1 HB1 HM1 ⊢
            refine pure_ (i := 14) (N := some 31) (v := ?_) (a' := ?_) #[true, true, true, true, true, true, true, true, true, true, true, true, true, true, true, false] rfl rfl (by kernel_rfl) (fun _ _ _ h => h) (Or.inl ⟨by rfl, ?_⟩) ?_ ?_
            rotate_left
            · intro w'
              go_simp
              with_reducible rfl
            rotate_left
            · simp only [Act.put, List.setIfInBounds_toArray, List.set_cons_zero, List.set_cons_succ, i64_w, i32_w]
              rfl
            obtain ⟨ce3, hce3, hM3, hcc3⟩ := Kd.N_get HN1.out z40 a2 (of_eq_true p2) (of_eq_true q2)
            obtain ⟨A3, e3, he3, _, _⟩ := k40_openF hM3
            have hx3_0 : (w19.cell? ⟨go, a2.toNat * 2, none⟩) = some (.int .i64 ((t275.set a1.toNat (rd_T40 t275 a2)).getD a2.toNat z40).f0) := by have := hcc3 0 _ (by rw [he3]; rfl); rw [gadd] at this; exact this
            have hx3_1 : (w19.cell? ⟨go, a2.toNat * 2 + 1, none⟩) = some (.slice A3 ((t275.set a1.toNat (rd_T40 t275 a2)).getD a2.toNat z40).f1.length e3) := by have := hcc3 1 _ (by rw [he3]; rfl); rw [gadd] at this; exact this
            obtain ⟨cur, hcur, _, _, _⟩ := N_cells HN1.out
            have hf3_0 : w19.frozen? ⟨go, a2.toNat * 2, none⟩ = false := blk_frozen hcur _
            have hf3_1 : w19.frozen? ⟨go, a2.toNat * 2 + 1, none⟩ = false := blk_frozen hcur _
            refine last_ (i := 15) (N := none) #[true, true, true, true, true, true, true, true, true, true, true, true, true, true, true, true] rfl rfl (by kernel_rfl) (by decide) (fun K hK => ?_)
            refine skip_ (w1 := ?_) (by rfl) rfl ?_ ?_
            rotate_left
            · go_simp
              rfl
            refine hK.out _ _ ?_
            clear hK K
            obtain ⟨hN2, hG2⟩ := Kd.N_seg HN1.out a2 (of_eq_true p2) (of_eq_true q2) (seg := [(.int .i64 (rd_T40 t275 a1).f0), (.slice A1 (rd_T40 t275 a1).f1.length e1)]) (j := 0) hce3 (fun j u hu => by have h_ := hcc3 j u hu; rw [gadd] at h_; exact h_) (show 0 + 2 ≤ 2 from Nat.le_refl 2) (x' := rd_T40 t275 a1) (okp := fun k_ => w.heap.size ≤ k_ ∧ some k_ ≠ (.slice (some ⟨go, 0, none⟩) t275.length co18 : Value).ownBlock) (show Kd.FK k40 _ _ _ _ from by have h2_ : ce3.drop 2 = [] := List.drop_of_length_le (by rw [hce3]; exact Nat.le_refl 2); simp only [List.take_zero, List.nil_append, List.length_cons, List.length_nil]; rw [show 0 + (0 + 1 + 1) = 2 from rfl, h2_, List.append_nil]; exact HM1.out) (fun k_ hk => ⟨hk.1, fun he => hk.2 (by rw [he]; rfl)⟩)
            have HN2 := Aside0.mk (show Kd.N k40 40 ((w19.setCell ⟨go, a2.toNat * 2, none⟩ (.int .i64 (rd_T40 t275 a1).f0)).setCell ⟨go, a2.toNat * 2 + 1, none⟩ (.slice A1 (rd_T40 t275 a1).f1.length e1)) w.heap.size (fun k_ => w.heap.size ≤ k_) (.slice (some ⟨go, 0, none⟩) t275.length co18) ((t275.set a1.toNat (rd_T40 t275 a2)).set a2.toNat (rd_T40 t275 a1)) from hN2)
            have HB2 := Aside0.mk (show Below w.heap.size w ((w19.setCell ⟨go, a2.toNat * 2, none⟩ (.int .i64 (rd_T40 t275 a1).f0)).setCell ⟨go, a2.toNat * 2 + 1, none⟩ (.slice A1 (rd_T40 t275 a1).f1.length e1)) from pw_below_grown HB1.out (some go) HB1.out.size hG2 (fun k hk => by injection hk with hk; rw [← hk]; exact Kd.N_base HN1.out go rfl))
            clear hN2 hG2 HN1 HB1 HM1 hcc3 hM3 hce3 he3 hx3_0 hx3_1 hf3_0 hf3_1 hcur
            generalize ((w19.setCell ⟨go, a2.toNat * 2, none⟩ (.int .i64 (rd_T40 t275 a1).f0)).setCell ⟨go, a2.toNat * 2 + 1, none⟩ (.slice A1 (rd_T40 t275 a1).f1.length e1)) = w20 at HN2 HB2 ⊢
            refine done_ (by kernel_rfl) ?_
            go_wp2
            go_ret2
            exact ⟨_, rfl, by rw [Ny286.out, Ny285.out]; exact HN2.out, HB2.out⟩
          · rw [if_neg c10] at H
            exact absurd H (by simp)
        · rw [if_neg c9] at H
          exact absurd H (by simp)
      · rw [if_neg c8] at H
        exact absurd H (by simp)
    · rw [if_neg c7] at H
      exact absurd H (by simp)
  · replace c6 := Bool.eq_false_iff.mpr c6
    subst c6
    have H1 : (some (t275, 1)) = some (r1, r2) := by rw [if_neg (show ¬ (false = true) by decide)] at H; exact H
    clear H
    have H := H1
    clear H1
    simp only [Option.some.injEq, Prod.mk.injEq] at H
    obtain ⟨rfl, rfl⟩ := H
    go_enter Try.func38, Try.ntmps38
    go_wp2_with (first | ((with_reducible refine gate_callee (f := 59) rfl ?_); refine goesL_ (some 10) rfl rfl Try.func59 (by kernel_rfl) rfl #[.slice A0 l0.length c0] rfl (by (try simp only [List.map_toArray, List.map_cons, List.map_nil]); first | done | rfl | (simp only [List.length_drop, List.length_take]; rfl)) ?_; (with_reducible refine (net_copied.calls k _ _ l0 t275 _ ?side1 ?side2 A4.out).mono ?_); (case side1 => repeat (first | exact HR0.out | (with_reducible refine Kd.C_alloc ?_ _) | (with_reducible refine Kd.C_drewN ?_ _) | (with_reducible refine Kd.C_drew ?_))); (case side2 => exact HC0.out); rintro e w27 ⟨v276, rfl, ho0, hb⟩; refine ⟨_, rfl, ?_⟩; have n0_ := Aside0.mk (Kd.N_lower (Kd.N_mono (ok' := fun k_ => (w.heap.size ≤ k_)) (Kd.S_N (Kd.S_bound ho0)) (fun k_ hk_ => (Nat.le_trans (below_size (by repeat (first | (with_reducible first | exact HB.out | apply below_alloc | apply pw_below_drewN | apply below_drew1) | exact HB.out))) hk_.2.1))) (below_size (by repeat (first | (with_reducible first | exact HB.out | apply below_alloc | apply pw_below_drewN | apply below_drew1) | exact HB.out)))); have n1_ := Aside0.mk (below_step (by repeat (first | (with_reducible first | exact HB.out | apply below_alloc | apply pw_below_drewN | apply below_drew1) | exact HB.out)) hb); clear HB; have HO277 := n0_; have HB := n1_; clear n0_ n1_; (try clear hb); (try clear hb2); (try clear hk); (try clear hi); (try clear ho0)) | ((with_reducible refine gate_dst (N := 14) rfl ?_); refine Kd.R_lit (Kd.int .i64) _ 3 ?hg (N := 14) ?hd (xs := ([a1, a2] : List Int)) (inner := [.int .i64 a1, .int .i64 a2]) (ok := fun _ => True) (okp := fun _ => True) ?hr ?hp (fun _ hk => hk) trivial (Below.refl _ _) (Nat.le_refl _) (by simp) ?_; (case hd => rfl); (case hg => rfl); (case hr => first | (go_simp; done) | (go_simp; rfl)); (case hp => exact (Reps.one (show Kd.M (Kd.int .i64) _ _ _ a1 [.int .i64 a1] from rfl) (Reps.one (show Kd.M (Kd.int .i64) _ _ _ a2 [.int .i64 a2] from rfl) (Reps.none _ _)))); intro v279 w28 ho29 hb hg_ hnew_; clear hg_ hnew_; (first | rw [← Ny278.out] at ho29 | (simp only [Int.reduceToNat] at ho29; rw [← Ny278.out] at ho29)); have n0_ := Aside0.mk (Kd.N_elder' (by (with_reducible repeat (first | apply Kd.N_alloc | apply Kd.N_drewN | apply Kd.N_drew)); exact HO277.out) (Kd.R_base ho29) hb); have n1_ := Aside0.mk (Kd.R_lower (Kd.R_newM (M := fun k_ => (w.heap.size ≤ k_)) ho29 (below_size (by repeat (first | (with_reducible first | exact HB.out | apply below_alloc | apply pw_below_drewN | apply below_drew1) | exact HB.out))) (fun k_ h_ => h_)) (below_size (by repeat (first | (with_reducible first | exact HB.out | apply below_alloc | apply pw_below_drewN | apply below_drew1) | exact HB.out)))); have n2_ := Aside0.mk (below_step (by repeat (first | (with_reducible first | exact HB.out | apply below_alloc | apply pw_below_drewN | apply below_drew1) | exact HB.out)) hb); clear HO277; clear HB; have HO277 := n0_; have HO280 := n1_; have HB := n2_; clear n0_ n1_ n2_; clear hb ho29; obtain ⟨Ao30, co30, eo30⟩ := Kd.R_slice HO280.out; subst eo30) | ((with_reducible refine gate_callee (f := 60) rfl ?_); refine goesL_ (some 15) rfl rfl Try.func60 (by kernel_rfl) rfl #[.slice A0 l0.length c0, .slice Ao30 y278.length co30] rfl (by (try simp only [List.map_toArray, List.map_cons, List.map_nil]); first | done | rfl | (simp only [List.length_drop, List.length_take]; rfl)) ?_; (with_reducible refine (net_at.calls k _ _ l0 _ _ y278 false _ ?side1 ?side2 ?side3 ?side4 A5.out).mono ?_); (case side1 => repeat (first | exact (Kd.C_below HR0.out HB.out) | (with_reducible refine Kd.C_alloc ?_ _) | (with_reducible refine Kd.C_drewN ?_ _) | (with_reducible refine Kd.C_drew ?_))); (case side2 => exact HC0.out); (case side3 => repeat (first | exact (Kd.R_reads' HO280.out).2.2 | (with_reducible refine Kd.C_alloc ?_ _) | (with_reducible refine Kd.C_drewN ?_ _) | (with_reducible refine Kd.C_drew ?_))); (case side4 => exact (Kd.R_reads' HO280.out).2.1); rintro e w31 ⟨rfl, hb⟩; refine ⟨_, rfl, ?_⟩; have n0_ := Aside0.mk (Kd.N_below (by (with_reducible repeat (first | apply Kd.N_alloc | apply Kd.N_drewN | apply Kd.N_drew)); exact HO277.out) hb); have n1_ := Aside0.mk (Kd.R_below (by (with_reducible repeat (first | apply Kd.R_alloc | apply Kd.R_drewN | apply Kd.R_drew)); exact HO280.out) hb); have n2_ := Aside0.mk (below_step (by repeat (first | (with_reducible first | exact HB.out | apply below_alloc | apply pw_below_drewN | apply below_drew1) | exact HB.out)) hb); clear HO277; clear HO280; clear HB; have HO277 := n0_; have HO280 := n1_; have HB := n2_; clear n0_ n1_ n2_; (try clear hb); (try clear hb2); (try clear hk); (try clear hi)))
    go_ret2
    exact ⟨_, by first | rfl | (simp [errW_none, errW_some] <;> rfl) | (simp [*, errW_none, errW_some] <;> rfl), by (with_reducible repeat (first | apply Kd.N_alloc | apply Kd.N_drewN | apply Kd.N_drew)); exact Kd.N_mono HO277.out (fun _ hk => hk.1), by repeat (first | (with_reducible first | exact HB.out | apply below_alloc | apply pw_below_drewN | apply below_drew1) | exact HB.out)⟩

/-! ### crc_Turn: function 65 -/
def crc_Turn.f (l0 : List Int) (a1 : Int) : Option (List Int × Int) := if a1 < 0 then (some (([] : List Int), 1)) else (if (a1 / 8) ≥ (l0.length : Int) then (some (([] : List Int), 1)) else ((slices_Clone_byte_byte.f l0).bind fun t287 => (if 0 ≤ (a1 / 8) then (if (a1 / 8) < (t287.length : Int) then (if 0 ≤ (Go.bits .and .i64 a1 7) then (some ((t287.set ((a1 / 8) : Int).toNat (Go.bits .xor .u8 (rd t287 (a1 / 8)) (shl .u8 1 (Go.bits .and .i64 a1 7)))), 0)) else (none)) else (none)) else (none))))
def crc_Turn.T4 : Bool × List (List Nat × List Nat) := (true, [([], []), ([], []), ([1], [1]), ([0, 2], [0, 2]), ([3], [3]), ([], []), ([5], [5]), ([6], [6]), ([4, 7], [4, 7]), ([0, 2, 0, 1, 2, 3, 4, 5, 6, 7, 8], [0, 2]), ([9, 8, 0, 1, 2, 3, 4, 5, 6, 7, 8], [8, 9])])
def crc_Turn.B4 : List Nat := [0, 0, 2, 7, 15, 0, 32, 96, 255, 511, 1023]
theorem crc_Turn.tab4 : rtab .any (opsOf Try.f65 4) = crc_Turn.T4 := by kernel_rfl
theorem crc_Turn.bits4 : waitsOk crc_Turn.T4.2 crc_Turn.B4 = true := by kernel_rfl
set_option maxHeartbeats 8000000 in
set_option maxRecDepth 100000 in
theorem crc_Turn.calls (A0 : Option Addr) (c0 : Nat) (l0 : List Int) (a1 : Int) (r1 : List Int) (r2 : Int) (w : World) (hr0 : Kd.C (Kd.int .u8) w A0 l0.length l0) (hc0 : l0.length ≤ c0) (h : crc_Turn.f l0 a1 = some (r1, r2)) :
    Calls Try.prog 65 #[.slice A0 l0.length c0, .int .i64 a1] w fun e w' => ∃ v0_ : Value, e = .returned (.tuple #[v0_, .int .i64 r2]) ∧ Kd.R (Kd.int .u8) 5 w' w.heap.size (fun _ => True) v0_ r1 ∧ Below w.heap.size w w' := by
  have HR0 := Aside0.mk hr0
  have HC0 := Aside0.mk hc0
  clear hr0 hc0
  have HB := Aside0.mk (Below.refl w.heap.size w)
  have H : (if a1 < 0 then (some (([] : List Int), 1)) else (if (a1 / 8) ≥ (l0.length : Int) then (some (([] : List Int), 1)) else ((slices_Clone_byte_byte.f l0).bind fun t287 => (if 0 ≤ (a1 / 8) then (if (a1 / 8) < (t287.length : Int) then (if 0 ≤ (Go.bits .and .i64 a1 7) then (some ((t287.set ((a1 / 8) : Int).toNat (Go.bits .xor .u8 (rd t287 (a1 / 8)) (shl .u8 1 (Go.bits .and .i64 a1 7)))), 0)) else (none)) else (none)) else (none))))) = some (r1, r2) := h
  clear h
  by_cases c3 : a1 < 0
  · rw [if_pos c3] at H
    have c3b0 : decide (a1 < 0) = true := decide_eq_true c3
    clear c3
    simp only [Option.some.injEq, Prod.mk.injEq] at H
    obtain ⟨rfl, rfl⟩ := H
    go_enter Try.func65, Try.ntmps65
    go_wp2
    go_ret2
    exact ⟨_, by first | rfl | (simp [errW_none, errW_some] <;> rfl) | (simp [*, errW_none, errW_some] <;> rfl), by first | exact Kd.R_nil _ _ _ _ _ | exact Kd.N_nil _ _ _ _ _ | exact Kd.V_nil _ _ _ _ _ | exact Kd.Q_nil _ _ _ _ _ | exact Kd.S_nil _ _ _ _ _, by repeat (first | (with_reducible first | exact HB.out | apply below_alloc | apply pw_below_drewN | apply below_drew1) | exact HB.out)⟩
  · rw [if_neg c3] at H
    have c3b0 : decide (a1 < 0) = false := decide_eq_false c3
    clear c3
    by_cases c4 : (a1 / 8) ≥ (l0.length : Int)
    · rw [if_pos c4] at H
      have c4b0 : decide ((l0.length : Int) ≤ (a1 / 8)) = true := decide_eq_true c4
      clear c4
      simp only [Option.some.injEq, Prod.mk.injEq] at H
      obtain ⟨rfl, rfl⟩ := H
      go_enter Try.func65, Try.ntmps65
      go_wp2
      go_ret2
      exact ⟨_, by first | rfl | (simp [errW_none, errW_some] <;> rfl) | (simp [*, errW_none, errW_some] <;> rfl), by first | exact Kd.R_nil _ _ _ _ _ | exact Kd.N_nil _ _ _ _ _ | exact Kd.V_nil _ _ _ _ _ | exact Kd.Q_nil _ _ _ _ _ | exact Kd.S_nil _ _ _ _ _, by repeat (first | (with_reducible first | exact HB.out | apply below_alloc | apply pw_below_drewN | apply below_drew1) | exact HB.out)⟩
    · rw [if_neg c4] at H
      have c4b0 : decide ((l0.length : Int) ≤ (a1 / 8)) = false := decide_eq_false c4
      clear c4
      replace H := Option.bind_eq_some_iff.mp H
      obtain ⟨t287, A50, H⟩ := H
      replace H : (if 0 ≤ (a1 / 8) then (if (a1 / 8) < (t287.length : Int) then (if 0 ≤ (Go.bits .and .i64 a1 7) then (some ((t287.set ((a1 / 8) : Int).toNat (Go.bits .xor .u8 (rd t287 (a1 / 8)) (shl .u8 1 (Go.bits .and .i64 a1 7)))), 0)) else (none)) else (none)) else (none)) = some (r1, r2) := H
      have A5 := Aside0.mk A50
      clear A50
      obtain ⟨ji6, hji6⟩ : ∃ j_ : Int, (a1 / 8) = j_ := ⟨_, rfl⟩
      replace H : (if 0 ≤ (ji6) then (if (ji6) < (t287.length : Int) then (if 0 ≤ (Go.bits .and .i64 a1 7) then (some ((t287.set ((ji6) : Int).toNat (Go.bits .xor .u8 (rd t287 (ji6)) (shl .u8 1 (Go.bits .and .i64 a1 7)))), 0)) else (none)) else (none)) else (none)) = some (r1, r2) := by first | (rw [hji6] at H; exact H) | (simp only [hji6] at H ⊢; exact H)
      (try rw [hji6] at c4b0)
      (try rw [hji6] at A5)
      by_cases c7 : 0 ≤ (ji6)
      · rw [if_pos c7] at H
        have c7b0 : decide (0 ≤ (ji6)) = true := decide_eq_true c7
        clear c7
        by_cases c8 : (ji6) < (t287.length : Int)
        · rw [if_pos c8] at H
          have c8b0 : decide ((ji6) < (t287.length : Int)) = true := decide_eq_true c8
          clear c8
          by_cases c9 : 0 ≤ (Go.bits .and .i64 a1 7)
          · rw [if_pos c9] at H
            have c9b0 := eq_true c9
            have c9b1 : decide (0 ≤ (Go.bits .and .i64 a1 7)) = true := decide_eq_true c9
            clear c9
            obtain ⟨ji10, hji10⟩ : ∃ j_ : Int, (shl .u8 1 (Go.bits .and .i64 a1 7)) = j_ := ⟨_, rfl⟩
            replace H : (some ((t287.set ((ji6) : Int).toNat (Go.bits .xor .u8 (rd t287 (ji6)) (ji10))), 0)) = some (r1, r2) := by first | (rw [hji10] at H; exact H) | (simp only [hji10] at H ⊢; exact H)
            (try rw [hji10] at A5)
            have hji10_ : (IntKind.u8.wrap (1 * 2 ^ min (Go.bits .and .i64 a1 7).toNat 8)) = ji10 := hji10
            have hji10z : (Go.bits .and .i64 a1 7) ≤ 8 → (IntKind.u8.wrap (1 * 2 ^ (Go.bits .and .i64 a1 7).toNat)) = ji10 := shl_small hji10
            have hji10u : (IntKind.u8.wrap (2 ^ min (Go.bits .and .i64 a1 7).toNat 8)) = ji10 := by have h_ := hji10_; rw [Int.one_mul] at h_; exact h_
            have hji10v : (Go.bits .and .i64 a1 7) ≤ 8 → (IntKind.u8.wrap (2 ^ (Go.bits .and .i64 a1 7).toNat)) = ji10 := fun hle_ => by have h_ := hji10z hle_; rw [Int.one_mul] at h_; exact h_
            obtain ⟨y291, hy291⟩ : ∃ y_ : List Int, y_ = (t287.set ((ji6) : Int).toNat (Go.bits .xor .u8 (rd t287 (ji6)) (ji10))) := ⟨_, rfl⟩
            replace H : (some (y291, 0)) = some (r1, r2) := by first | (rw [hy291]; with_reducible exact H) | (have H2_ := (Option.bind_some _ _).symm.trans H; rw [hy291]; with_reducible exact H2_) | (have H2_ := (Option.bind_some _ _).symm.trans H; with_reducible exact H2_) | with_reducible exact H | (rw [hy291]; exact H) | exact H
            have Ny291 := Aside0.mk hy291
            clear hy291
            simp only [Option.some.injEq, Prod.mk.injEq] at H
            obtain ⟨rfl, rfl⟩ := H
            go_enter Try.func65, Try.ntmps65
            try go_wp2_with (first | ((with_reducible refine gate_callee (f := 78) rfl ?_); refine goesL_ (some 17) rfl rfl Try.func78 (by kernel_rfl) rfl #[.slice A0 l0.length c0] rfl (by (try simp only [List.map_toArray, List.map_cons, List.map_nil]); first | done | rfl | (simp only [List.length_drop, List.length_take]; rfl)) ?_; (with_reducible refine (slices_Clone_byte_byte.calls _ _ l0 t287 _ ?side1 ?side2 A5.out).mono ?_); (case side1 => repeat (first | exact HR0.out | (with_reducible refine Kd.C_alloc ?_ _) | (with_reducible refine Kd.C_drewN ?_ _) | (with_reducible refine Kd.C_drew ?_))); (case side2 => exact HC0.out); rintro e w12 ⟨v288, rfl, ho0, hb⟩; refine ⟨_, rfl, ?_⟩; have n0_ := Aside0.mk (Kd.R_lower ho0 (below_size (by repeat (first | (with_reducible first | exact HB.out | apply below_alloc | apply pw_below_drewN | apply below_drew1) | exact HB.out)))); have n1_ := Aside0.mk (below_step (by repeat (first | (with_reducible first | exact HB.out | apply below_alloc | apply pw_below_drewN | apply below_drew1) | exact HB.out)) hb); clear HB; have HO289 := n0_; have HB := n1_; clear n0_ n1_; (try clear hb); (try clear hb2); (try clear hk); (try clear hi); (try clear ho0)))
            have n0_ := Aside0.mk (Kd.R_drew HO289.out)
            have n1_ := Aside0.mk (below_drew1 HB.out)
            clear HO289
            clear HB
            have HO289 := n0_
            have HB := n1_
            clear n0_ n1_
            obtain ⟨Ao14, co14, eo14⟩ := Kd.R_slice HO289.out
            (first | subst eo14 | (injection eo14 with f1_ f2_ f3_; have f4_ := f1_.symm; have f5_ := f3_.symm; clear f1_ f2_ f3_; subst f4_; subst f5_))
            have p290 : 0 ≤ ((ji6) : Int) := of_decide_eq_true (by first | (with_reducible assumption) | assumption)
            have q290 : (ji6) < (t287.length : Int) := of_decide_eq_true (by first | (with_reducible assumption) | assumption)
            obtain ⟨ad290, e290, hx290_0⟩ := Kd.at_int (Kd.R_reads' HO289.out).2.2 (ji6) p290 q290
            cases e290
            replace p290 := eq_true p290
            replace q290 := eq_true q290
            have p11 : 0 ≤ ((ji6) : Int) := of_decide_eq_true (by first | (with_reducible assumption) | assumption)
            have q11 : ((ji6) : Int) < ((t287.length : Int) : Int) := of_decide_eq_true (by first | (with_reducible assumption) | assumption)
            obtain ⟨go11, co11, eo11, gb11, gl11, cl11, HG11⟩ := Kd.R_form HO289.out (by omega)
            (first | cases eo11 | (injection eo11 with ea_ en_ ec_; (first | subst ea_ | (injection ea_ with ea_; subst ea_)); subst ec_; clear en_))
            have GB11 := Aside0.mk gb11
            have GG11 := Aside0.mk HG11
            clear gb11 gl11 HG11
            (first | simp only [add_plain] at hx290_0 | skip)
            obtain ⟨hx11_0, hf11_0⟩ := Kd.R_celln 0 HO289.out ((ji6) : Int) p11 q11
            replace p11 := eq_true p11
            replace q11 := eq_true q11
            have HP15 := Kd.R_putn HO289.out ((ji6) : Int) (Go.bits .xor .u8 (rd t287 (ji6)) (ji10))
            rw [← Ny291.out] at HP15
            have HQ15 := Aside0.mk HP15
            clear HP15
            refine start_ (n := 11) (S := fun w' => w'.cell? ⟨go11, ((ji6)).toNat, none⟩ = some (.int .u8 (rd t287 (ji6)))) (ds := [10]) #[false, false, false, false, false, false, false, false, false, false, false] (by kernel_rfl) rfl rfl (hx290_0) (fun hHeld => ?_); refine with_tabW crc_Turn.tab4 crc_Turn.bits4 (fun HT_ HW_ => ?_)
            generalize w12.drew = w13 at HO289 HB GG11 HQ15 hf11_0 hx11_0 hx290_0 hHeld ⊢
            refine pure_ (i := 0) (N := some 18) (v := ?_) (a' := ?_) #[true, false, false, false, false, false, false, false, false, false, false] rfl rfl (any_of HT_.out (by kernel_rfl)) (fun _ _ _ h => h) (Or.inl ⟨by rfl, ?_⟩) ?_ ?_
            rotate_left
            · intro w'
              go_simp
              with_reducible rfl
            rotate_left
            · simp only [Act.put, List.setIfInBounds_toArray, List.set_cons_zero, List.set_cons_succ, i64_w, i32_w]
              rfl
            refine pure_ (i := 1) (N := some 19) (v := ?_) (a' := ?_) #[true, true, false, false, false, false, false, false, false, false, false] rfl rfl (any_of HT_.out (by kernel_rfl)) (fun _ _ _ h => h) (Or.inl ⟨by rfl, ?_⟩) ?_ ?_
            rotate_left
            · intro w'
              go_simp
              with_reducible rfl
            rotate_left
            · simp only [Act.put, List.setIfInBounds_toArray, List.set_cons_zero, List.set_cons_succ, i64_w, i32_w]
              rfl
            refine pure_ (i := 2) (N := some 20) (v := ?_) (a' := ?_) #[true, true, true, false, false, false, false, false, false, false, false] rfl rfl (any_of HT_.out (by kernel_rfl)) (fun _ _ _ h => h) (Or.inl ⟨by rfl, ?_⟩) ?_ ?_
            rotate_left
            · intro w'
              go_simp
              with_reducible rfl
            rotate_left
            · simp only [Act.put, List.setIfInBounds_toArray, List.set_cons_zero, List.set_cons_succ, i64_w, i32_w]
              rfl
            refine pure_ (i := 3) (N := some 21) (v := ?_) (a' := ?_) #[true, true, true, true, false, false, false, false, false, false, false] rfl rfl (any_of HT_.out (by kernel_rfl)) (fun _ _ _ h => h) (Or.inl ⟨by rfl, ?_⟩) ?_ ?_
            rotate_left
            · intro w'
              go_simp
              with_reducible rfl
            rotate_left
            · simp only [Act.put, List.setIfInBounds_toArray, List.set_cons_zero, List.set_cons_succ, i64_w, i32_w]
              rfl
            refine pure_ (i := 5) (N := some 23) (v := ?_) (a' := ?_) #[true, true, true, true, false, true, false, false, false, false, false] rfl rfl (any_of HT_.out (by kernel_rfl)) (fun _ _ _ h => h) (Or.inl ⟨by rfl, ?_⟩) ?_ ?_
            rotate_left
            · intro w'
              go_simp
              with_reducible rfl
            rotate_left
            · simp only [Act.put, List.setIfInBounds_toArray, List.set_cons_zero, List.set_cons_succ, i64_w, i32_w]
              rfl
            refine pure_ (i := 6) (N := some 24) (v := ?_) (a' := ?_) #[true, true, true, true, false, true, true, false, false, false, false] rfl rfl (any_of HT_.out (by kernel_rfl)) (fun _ _ _ h => h) (Or.inl ⟨by rfl, ?_⟩) ?_ ?_
            rotate_left
            · intro w'
              go_simp
              with_reducible rfl
            rotate_left
            · simp only [Act.put, List.setIfInBounds_toArray, List.set_cons_zero, List.set_cons_succ, i64_w, i32_w]
              rfl
            refine pure_ (i := 7) (N := some 25) (v := ?_) (a' := ?_) #[true, true, true, true, false, true, true, true, false, false, false] rfl rfl (any_of HT_.out (by kernel_rfl)) (fun _ _ _ h => h) (Or.inl ⟨by rfl, ?_⟩) ?_ ?_
            rotate_left
            · intro w'
              go_simp
              with_reducible rfl
            rotate_left
            · simp only [Act.put, List.setIfInBounds_toArray, List.set_cons_zero, List.set_cons_succ, i64_w, i32_w]
              rfl
            refine take_ (i := 4) (N := some 22) (v := ?_) (a' := ?_) #[true, true, true, true, true, true, true, true, false, false, false] rfl rfl (take_ofW HT_.out HW_.out (by kernel_rfl)) (fun _ _ _ h => h) (Or.inl ⟨by rfl, ?_⟩) hHeld ?_ ?_
            rotate_left
            · intro w' s0
              go_simp
              with_reducible rfl
            rotate_left
            · simp only [Act.put, List.setIfInBounds_toArray, List.set_cons_zero, List.set_cons_succ, i64_w, i32_w]
              rfl
            refine pure_ (i := 8) (N := some 26) (v := ?_) (a' := ?_) #[true, true, true, true, true, true, true, true, true, false, false] rfl rfl (any_of HT_.out (by kernel_rfl)) (fun _ _ _ h => h) (Or.inl ⟨by rfl, ?_⟩) ?_ ?_
            rotate_left
            · intro w'
              go_simp
              with_reducible rfl
            rotate_left
            · simp only [Act.put, List.setIfInBounds_toArray, List.set_cons_zero, List.set_cons_succ, i64_w, i32_w]
              rfl
            refine pure_ (i := 9) (N := some 27) (v := ?_) (a' := ?_) #[true, true, true, true, true, true, true, true, true, true, false] rfl rfl (any_of HT_.out (by kernel_rfl)) (fun _ _ _ h => h) (Or.inl ⟨by rfl, ?_⟩) ?_ ?_
            rotate_left
            · intro w'
              go_simp
              with_reducible rfl
            rotate_left
            · simp only [Act.put, List.setIfInBounds_toArray, List.set_cons_zero, List.set_cons_succ, i64_w, i32_w]
              rfl
            refine last_ (i := 10) (N := none) #[true, true, true, true, true, true, true, true, true, true, true] rfl rfl (one_of HT_.out (by kernel_rfl)) (by decide) (fun K hK => ?_)
            refine skip_ (w1 := ?_) (by rfl) rfl ?_ ?_
            rotate_left
            · go_simp
              rfl
            refine hK.out _ _ ?_
            clear hK K
            refine done_ (done_of HT_.out (by kernel_rfl)) ?_
            try go_wp2
            go_ret2
            exact ⟨_, by first | rfl | (simp [errW_none, errW_some] <;> rfl) | (simp only [← hji6, ← hji10]; first | rfl | (simp [errW_none, errW_some] <;> rfl)) | (simp [*, errW_none, errW_some] <;> rfl), by (with_reducible repeat (first | apply Kd.R_alloc | apply Kd.R_drewN | apply Kd.R_drew)); exact HQ15.out, by repeat (first | (with_reducible first | exact HB.out | apply below_alloc | apply pw_below_drewN | apply below_drew1 | refine below_set ?_ GB11.out) | exact HB.out)⟩
          · rw [if_neg c9] at H
            exact absurd H (by simp)
        · rw [if_neg c8] at H
          exact absurd H (by simp)
      · rw [if_neg c7] at H
        exact absurd H (by simp)

/-! ### net_Spoil: function 40 -/
def net_Spoil.f (k : Nat) (l0 : List (S40)) (a1 : Int) (a2 : Int) : Option ((List (S40)) × Int) := (net_copied.f k l0).bind fun t292 => ((net_at.f k l0 (([a1] : List Int))).bind fun t298 => (if t298 = true then (if 0 ≤ a1 then (if a1 < (l0.length : Int) then ((crc_Turn.f ((rd_T40 l0 a1).f1) a2).bind fun bt300 => (if bt300.2 = 0 then (if a1 < (t292.length : Int) then (some ((t292.set (a1 : Int).toNat (⟨(rd_T40 t292 a1).f0, bt300.1⟩ : S40)), bt300.2)) else (none)) else (some (t292, bt300.2)))) else (none)) else (none)) else (some (t292, 1))))
theorem net_Spoil.mono : ∀ a0 a1 a2 k, LeO (net_Spoil.f k a0 a1 a2) (net_Spoil.f (k + 1) a0 a1 a2) := by
  intro a0 a1 a2 k
  unfold net_Spoil.f
  repeat' first
      | (with_reducible exact net_at.mono _ _ _)
      | (with_reducible exact net_copied.mono _ _)
      | (with_reducible exact LeO.refl _)
      | (with_reducible exact LeO.none _)
      | (with_reducible refine LeO.ite ?_ ?_)
      | (with_reducible refine LeO.bind ?_ (fun _ => ?_))
      | exact net_at.mono _ _ _
      | exact net_copied.mono _ _
      | exact LeO.none _
      | refine LeO.ite ?_ ?_
      | refine LeO.bind ?_ (fun _ => ?_)
set_option maxHeartbeats 8000000 in
set_option maxRecDepth 100000 in
theorem net_Spoil.calls (k : Nat) (A0 : Option Addr) (c0 : Nat) (l0 : List (S40)) (a1 : Int) (a2 : Int) (r1 : List (S40)) (r2 : Int) (w : World) (hr0 : Kd.C k40 w A0 l0.length l0) (hc0 : l0.length ≤ c0) (h : net_Spoil.f k l0 a1 a2 = some (r1, r2)) :
    Calls Try.prog 40 #[.slice A0 l0.length c0, .int .i64 a1, .int .i64 a2] w fun e w' => ∃ v0_ : Value, e = .returned (.tuple #[v0_, .int .i64 r2]) ∧ Kd.S k40 40 w' w.heap.size (fun _ => True) v0_ r1 ∧ Below w.heap.size w w' := by
  have HR0 := Aside0.mk hr0
  have HC0 := Aside0.mk hc0
  clear hr0 hc0
  have HB := Aside0.mk (Below.refl w.heap.size w)
  have H : ((net_copied.f k l0).bind fun t292 => ((net_at.f k l0 (([a1] : List Int))).bind fun t298 => (if t298 = true then (if 0 ≤ a1 then (if a1 < (l0.length : Int) then ((crc_Turn.f ((rd_T40 l0 a1).f1) a2).bind fun bt300 => (if bt300.2 = 0 then (if a1 < (t292.length : Int) then (some ((t292.set (a1 : Int).toNat (⟨(rd_T40 t292 a1).f0, bt300.1⟩ : S40)), bt300.2)) else (none)) else (some (t292, bt300.2)))) else (none)) else (none)) else (some (t292, 1))))) = some (r1, r2) := h
  clear h
  replace H := Option.bind_eq_some_iff.mp H
  obtain ⟨t292, A40, H⟩ := H
  replace H : ((net_at.f k l0 (([a1] : List Int))).bind fun t298 => (if t298 = true then (if 0 ≤ a1 then (if a1 < (l0.length : Int) then ((crc_Turn.f ((rd_T40 l0 a1).f1) a2).bind fun bt300 => (if bt300.2 = 0 then (if a1 < (t292.length : Int) then (some ((t292.set (a1 : Int).toNat (⟨(rd_T40 t292 a1).f0, bt300.1⟩ : S40)), bt300.2)) else (none)) else (some (t292, bt300.2)))) else (none)) else (none)) else (some (t292, 1)))) = some (r1, r2) := H
  have A4 := Aside0.mk A40
  clear A40
  obtain ⟨y295, hy295⟩ : ∃ y_ : List Int, y_ = (([a1] : List Int)) := ⟨_, rfl⟩
  replace H : ((net_at.f k l0 y295).bind fun t298 => (if t298 = true then (if 0 ≤ a1 then (if a1 < (l0.length : Int) then ((crc_Turn.f ((rd_T40 l0 a1).f1) a2).bind fun bt300 => (if bt300.2 = 0 then (if a1 < (t292.length : Int) then (some ((t292.set (a1 : Int).toNat (⟨(rd_T40 t292 a1).f0, bt300.1⟩ : S40)), bt300.2)) else (none)) else (some (t292, bt300.2)))) else (none)) else (none)) else (some (t292, 1)))) = some (r1, r2) := by first | (rw [hy295]; with_reducible exact H) | (have H2_ := (Option.bind_some _ _).symm.trans H; rw [hy295]; with_reducible exact H2_) | (have H2_ := (Option.bind_some _ _).symm.trans H; with_reducible exact H2_) | with_reducible exact H | (rw [hy295]; exact H) | exact H
  have Ny295 := Aside0.mk hy295
  clear hy295
  replace H := Option.bind_eq_some_iff.mp H
  obtain ⟨t298, A50, H⟩ := H
  replace H : (if t298 = true then (if 0 ≤ a1 then (if a1 < (l0.length : Int) then ((crc_Turn.f ((rd_T40 l0 a1).f1) a2).bind fun bt300 => (if bt300.2 = 0 then (if a1 < (t292.length : Int) then (some ((t292.set (a1 : Int).toNat (⟨(rd_T40 t292 a1).f0, bt300.1⟩ : S40)), bt300.2)) else (none)) else (some (t292, bt300.2)))) else (none)) else (none)) else (some (t292, 1))) = some (r1, r2) := H
  have A5 := Aside0.mk A50
  clear A50
  by_cases c6 : t298 = true
  · subst c6
    have H1 : (if 0 ≤ a1 then (if a1 < (l0.length : Int) then ((crc_Turn.f ((rd_T40 l0 a1).f1) a2).bind fun bt300 => (if bt300.2 = 0 then (if a1 < (t292.length : Int) then (some ((t292.set (a1 : Int).toNat (⟨(rd_T40 t292 a1).f0, bt300.1⟩ : S40)), bt300.2)) else (none)) else (some (t292, bt300.2)))) else (none)) else (none)) = some (r1, r2) := by first | (rw [if_pos rfl] at H; exact H) | (rw [if_pos True.intro] at H; exact H)
    clear H
    have H := H1
    clear H1
    by_cases c7 : 0 ≤ a1
    · rw [if_pos c7] at H
      have c7b0 : decide (0 ≤ a1) = true := decide_eq_true c7
      clear c7
      by_cases c8 : a1 < (l0.length : Int)
      · rw [if_pos c8] at H
        have c8b0 : decide (a1 < (l0.length : Int)) = true := decide_eq_true c8
        clear c8
        replace H := Option.bind_eq_some_iff.mp H
        obtain ⟨⟨t300, t301⟩, A90, H⟩ := H
        replace H : (if t301 = 0 then (if a1 < (t292.length : Int) then (some ((t292.set (a1 : Int).toNat (⟨(rd_T40 t292 a1).f0, t300⟩ : S40)), t301)) else (none)) else (some (t292, t301))) = some (r1, r2) := H
        have A9 := Aside0.mk A90
        clear A90
        by_cases c10 : t301 = 0
        · rw [if_pos c10] at H
          have c10b0 : (t301 == 0) = true := beq_iff_eq.mpr c10
          have c10b1 : (t301 != 0) = false := bne_eq_false_iff_eq.mpr c10
          clear c10
          by_cases c11 : a1 < (t292.length : Int)
          · rw [if_pos c11] at H
            have c11b0 : decide (a1 < (t292.length : Int)) = true := decide_eq_true c11
            clear c11
            obtain ⟨y304, hy304⟩ : ∃ y_ : List (S40), y_ = (t292.set (a1 : Int).toNat (⟨(rd_T40 t292 a1).f0, t300⟩ : S40)) := ⟨_, rfl⟩
            replace H : (some (y304, t301)) = some (r1, r2) := by first | (rw [hy304]; with_reducible exact H) | (have H2_ := (Option.bind_some _ _).symm.trans H; rw [hy304]; with_reducible exact H2_) | (have H2_ := (Option.bind_some _ _).symm.trans H; with_reducible exact H2_) | with_reducible exact H | (rw [hy304]; exact H) | exact H
            have Ny304 := Aside0.mk hy304
            clear hy304
            simp only [Option.some.injEq, Prod.mk.injEq] at H
            obtain ⟨rfl, rfl⟩ := H
            go_enter Try.func40, Try.ntmps40
            go_wp2_with (first | ((with_reducible refine gate_callee (f := 59) rfl ?_); refine goesL_ (some 12) rfl rfl Try.func59 (by kernel_rfl) rfl #[.slice A0 l0.length c0] rfl (by (try simp only [List.map_toArray, List.map_cons, List.map_nil]); first | done | rfl | (simp only [List.length_drop, List.length_take]; rfl)) ?_; (with_reducible refine (net_copied.calls k _ _ l0 t292 _ ?side1 ?side2 A4.out).mono ?_); (case side1 => repeat (first | exact HR0.out | (with_reducible refine Kd.C_alloc ?_ _) | (with_reducible refine Kd.C_drewN ?_ _) | (with_reducible refine Kd.C_drew ?_))); (case side2 => exact HC0.out); rintro e w13 ⟨v293, rfl, ho0, hb⟩; refine ⟨_, rfl, ?_⟩; have n0_ := Aside0.mk (Kd.S_lower ho0 (below_size (by repeat (first | (with_reducible first | exact HB.out | apply below_alloc | apply pw_below_drewN | apply below_drew1) | exact HB.out)))); have n1_ := Aside0.mk (below_step (by repeat (first | (with_reducible first | exact HB.out | apply below_alloc | apply pw_below_drewN | apply below_drew1) | exact HB.out)) hb); clear HB; have HO294 := n0_; have HB := n1_; clear n0_ n1_; (try clear hb); (try clear hb2); (try clear hk); (try clear hi); (try clear ho0)) | ((with_reducible refine gate_dst (N := 15) rfl ?_); refine Kd.R_lit (Kd.int .i64) _ 3 ?hg (N := 15) ?hd (xs := ([a1] : List Int)) (inner := [.int .i64 a1]) (ok := fun _ => True) (okp := fun _ => True) ?hr ?hp (fun _ hk => hk) trivial (Below.refl _ _) (Nat.le_refl _) (by simp) ?_; (case hd => rfl); (case hg => rfl); (case hr => first | (go_simp; done) | (go_simp; rfl)); (case hp => exact (Reps.one (show Kd.M (Kd.int .i64) _ _ _ a1 [.int .i64 a1] from rfl) (Reps.none _ _))); intro v296 w14 ho15 hb hg_ hnew_; clear hg_ hnew_; (first | rw [← Ny295.out] at ho15 | (simp only [Int.reduceToNat] at ho15; rw [← Ny295.out] at ho15)); have n0_ := Aside0.mk (Kd.S_below (by (with_reducible repeat (first | apply Kd.S_alloc | apply Kd.S_drewN | apply Kd.S_drew)); exact HO294.out) hb); have n1_ := Aside0.mk (Kd.R_lower ho15 (below_size (by repeat (first | (with_reducible first | exact HB.out | apply below_alloc | apply pw_below_drewN | apply below_drew1) | exact HB.out)))); have n2_ := Aside0.mk (below_step (by repeat (first | (with_reducible first | exact HB.out | apply below_alloc | apply pw_below_drewN | apply below_drew1) | exact HB.out)) hb); clear HO294; clear HB; have HO294 := n0_; have HO297 := n1_; have HB := n2_; clear n0_ n1_ n2_; clear hb ho15; obtain ⟨Ao16, co16, eo16⟩ := Kd.R_slice HO297.out; subst eo16) | ((with_reducible refine gate_callee (f := 60) rfl ?_); refine goesL_ (some 16) rfl rfl Try.func60 (by kernel_rfl) rfl #[.slice A0 l0.length c0, .slice Ao16 y295.length co16] rfl (by (try simp only [List.map_toArray, List.map_cons, List.map_nil]); first | done | rfl | (simp only [List.length_drop, List.length_take]; rfl)) ?_; (with_reducible refine (net_at.calls k _ _ l0 _ _ y295 true _ ?side1 ?side2 ?side3 ?side4 A5.out).mono ?_); (case side1 => repeat (first | exact (Kd.C_below HR0.out HB.out) | (with_reducible refine Kd.C_alloc ?_ _) | (with_reducible refine Kd.C_drewN ?_ _) | (with_reducible refine Kd.C_drew ?_))); (case side2 => exact HC0.out); (case side3 => repeat (first | exact (Kd.R_reads' HO297.out).2.2 | (with_reducible refine Kd.C_alloc ?_ _) | (with_reducible refine Kd.C_drewN ?_ _) | (with_reducible refine Kd.C_drew ?_))); (case side4 => exact (Kd.R_reads' HO297.out).2.1); rintro e w17 ⟨rfl, hb⟩; refine ⟨_, rfl, ?_⟩; have n0_ := Aside0.mk (Kd.S_below (by (with_reducible repeat (first | apply Kd.S_alloc | apply Kd.S_drewN | apply Kd.S_drew)); exact HO294.out) hb); have n1_ := Aside0.mk (Kd.R_below (by (with_reducible repeat (first | apply Kd.R_alloc | apply Kd.R_drewN | apply Kd.R_drew)); exact HO297.out) hb); have n2_ := Aside0.mk (below_step (by repeat (first | (with_reducible first | exact HB.out | apply below_alloc | apply pw_below_drewN | apply below_drew1) | exact HB.out)) hb); clear HO294; clear HO297; clear HB; have HO294 := n0_; have HO297 := n1_; have HB := n2_; clear n0_ n1_ n2_; (try clear hb); (try clear hb2); (try clear hk); (try clear hi); have p299 : 0 ≤ (a1 : Int) := of_decide_eq_true (by first | (with_reducible assumption) | assumption); have q299 : a1 < (l0.length : Int) := of_decide_eq_true (by first | (with_reducible assumption) | assumption); obtain ⟨ad299, A299_1, c299_1, e299, hx299_0, hx299_1, hl299_1, hi299_1⟩ := at_T40 HR0.out a1 p299 q299; cases e299; replace hx299_0 := (HB.out.cell (World.block_lt_of_cell? w _ hx299_0)).trans hx299_0; replace hx299_1 := (HB.out.cell (World.block_lt_of_cell? w _ hx299_1)).trans hx299_1; have HR299_1 := Aside0.mk hi299_1; have HC299_1 := Aside0.mk hl299_1; clear hi299_1 hl299_1; replace p299 := eq_true p299; replace q299 := eq_true q299) | ((with_reducible refine gate_callee (f := 65) rfl ?_); refine goesL_ (some 26) rfl rfl Try.func65 (by kernel_rfl) rfl #[.slice A299_1 ((rd_T40 l0 a1).f1).length c299_1, .int .i64 a2] rfl (by (try simp only [List.map_toArray, List.map_cons, List.map_nil]); first | done | rfl | (simp only [List.length_drop, List.length_take]; rfl)) ?_; (with_reducible refine (crc_Turn.calls _ _ ((rd_T40 l0 a1).f1) a2 t300 t301 _ ?side1 ?side2 A9.out).mono ?_); (case side1 => repeat (first | exact (Kd.C_below HR299_1.out HB.out) | (with_reducible refine Kd.C_alloc ?_ _) | (with_reducible refine Kd.C_drewN ?_ _) | (with_reducible refine Kd.C_drew ?_))); (case side2 => exact HC299_1.out); rintro e w18 ⟨v302, rfl, ho0, hb⟩; have EZ := Aside0.mk (Kd.R_slice ho0); refine ⟨_, rfl, ?_⟩; have n0_ := Aside0.mk (Kd.S_elder' (by (with_reducible repeat (first | apply Kd.S_alloc | apply Kd.S_drewN | apply Kd.S_drew)); exact HO294.out) (Kd.R_base ho0) hb); have n1_ := Aside0.mk (Kd.R_below (by (with_reducible repeat (first | apply Kd.R_alloc | apply Kd.R_drewN | apply Kd.R_drew)); exact HO297.out) hb); have n2_ := Aside0.mk (Kd.R_lower ho0 (below_size (by repeat (first | (with_reducible first | exact HB.out | apply below_alloc | apply pw_below_drewN | apply below_drew1) | exact HB.out)))); have n3_ := Aside0.mk (below_step (by repeat (first | (with_reducible first | exact HB.out | apply below_alloc | apply pw_below_drewN | apply below_drew1) | exact HB.out)) hb); clear HO294; clear HO297; clear HB; have HO294 := n0_; have HO297 := n1_; have HO303 := n2_; have HB := n3_; clear n0_ n1_ n2_ n3_; (try clear hb); (try clear hb2); (try clear hk); (try clear hi); (try clear ho0); have p12 : 0 ≤ (a1 : Int) := of_decide_eq_true (by first | (with_reducible assumption) | assumption); have q12 : (a1 : Int) < ((t292.length : Int) : Int) := of_decide_eq_true (by first | (with_reducible assumption) | assumption); obtain ⟨go12, co12, eo12, gb12, gl12, cl12, HG12⟩ := Kd.S_form HO294.out (by omega); (first | cases eo12 | (injection eo12 with ea_ en_ ec_; (first | subst ea_ | (injection ea_ with ea_; subst ea_)); subst ec_; clear en_)); have GB12 := Aside0.mk gb12; have GG12 := Aside0.mk HG12; clear gb12 gl12 HG12; obtain ⟨_, ce12, hcl12, hM12, hcc12, hfr12, _, _⟩ := Kd.S_elem HO294.out z40 (a1 : Int) p12 q12; obtain ⟨ve12_1, rfl, ge12_1⟩ := k40_openM hM12; have hx12_0 : w18.cell? ⟨go12, (a1 : Int).toNat * 2, none⟩ = some (.int .i64 ((rd_T40 t292 a1).f0)) := hcc12 0 _ rfl; have hx12_1 : w18.cell? ⟨go12, (a1 : Int).toNat * 2 + 1, none⟩ = some (ve12_1) := hcc12 1 _ rfl; have hf12_0 : w18.frozen? ⟨go12, (a1 : Int).toNat * 2, none⟩ = false := hfr12 0; have hf12_1 : w18.frozen? ⟨go12, (a1 : Int).toNat * 2 + 1, none⟩ = false := hfr12 1; clear hcl12 hcc12 hfr12 hM12; replace p12 := eq_true p12; replace q12 := eq_true q12; have n_ := Aside0.mk (Kd.S_mono (ok' := (fun k_ => some k_ ≠ (v302 : Value).ownBlock)) HO294.out (fun k_ hk => hk.2)); clear HO294; have HO294 := n_; clear n_; have HX19 := Aside0.mk (show Kd.S k40 40 w18 w.heap.size (fun k_ => ((fun _ => True)) k_ ∧ ¬ ((fun k_ => some k_ = (v302 : Value).ownBlock)) k_) (.slice (some ⟨go12, 0, none⟩) t292.length co12) t292 from (by (with_reducible repeat (first | apply Kd.S_alloc | apply Kd.S_drewN | apply Kd.S_drew)); exact Kd.S_mono HO294.out (fun k_ hk => ⟨trivial, fun e_ => hk e_⟩))); obtain ⟨oki19, ce19, hcl19, hM19, hcc19, hfr19, hoki19, hH19⟩ := Kd.S_elem HX19.out z40 (a1 : Int) (of_decide_eq_true (by first | (with_reducible assumption) | assumption)) (by have h_ : (a1 : Int) < ((t292.length : Int) : Int) := of_decide_eq_true (by first | (with_reducible assumption) | assumption); first | exact h_ | (have e_ := (Kd.S_reads' HO294.out).1; omega) | simpa using h_); obtain ⟨ve19_1, rfl, ge19_1⟩ := k40_openM hM19; have HP19 := Kd.S_seg hH19 (of_decide_eq_true (by first | (with_reducible assumption) | assumption)) (by have h_ : (a1 : Int) < ((t292.length : Int) : Int) := of_decide_eq_true (by first | (with_reducible assumption) | assumption); first | exact h_ | (have e_ := (Kd.S_reads' HO294.out).1; omega) | simpa using h_) (seg := [v302]) (j := 1) (show 2 ≤ 2 from by decide) (x' := (⟨(rd_T40 t292 a1).f0, t300⟩ : S40)) (k40_mkM _ _ _ (⟨(rd_T40 t292 a1).f0, t300⟩ : S40) (Kd.R_mono (Kd.R_tight rfl (Kd.R_mono (ok' := fun k_ => ((fun _ => True)) k_ ∧ k_ ≠ go12) (Kd.R_apart' (HO303.out) (Kd.S_typed HO294.out) (by decide)) (fun k_ hk => ⟨trivial, fun e_ => (hk.2) (by rw [e_]; rfl)⟩))) (fun _ h_ => Or.inr (h_)))) (fun _ hk => hk) (fun k_ hk_ => ((Kd.R_mono (ok' := fun k_ => ((fun _ => True)) k_ ∧ k_ ≠ go12) (Kd.R_apart' (HO303.out) (Kd.S_typed HO294.out) (by decide)) (fun k_ hk => ⟨trivial, fun e_ => (hk.2) (by rw [e_]; rfl)⟩))).1 k_ hk_.symm); have hx19_1 := hcc19 1 _ rfl; (try simp only [show (k40).sz = 2 from rfl, Nat.mul_one, Nat.add_zero] at hx19_1); have hf19_1 := hfr19 1; (try simp only [show (k40).sz = 2 from rfl, Nat.mul_one, Nat.add_zero] at hf19_1); clear hcl19 hcc19 hfr19 hM19 hoki19 hH19) | ((with_reducible refine gate_store (t := 26) (p := 35) rfl ?_); refine store_event (t := 26) (p := 35) (v := ?vo_w20) (w1 := (w18.setCell ⟨go12, (a1 : Int).toNat * 2 + 1, none⟩ (v302))) ?hg ?ho ?hn ?hr ?_; (case ho => rfl); (case hg => rfl); (case hn => rfl); (case hr => (obtain ⟨AoZ, coZ, eoZ⟩ := EZ.out; rw [eoZ]; first | (go_simp; done) | (go_simp; rfl))); intro w20 hw; have hg : w18.grownBy w20 (some go12) := (by rw [hw]; exact HP19.2); have hp_ : Kd.S k40 40 w20 w.heap.size (fun _ => True) (.slice (some ⟨go12, 0, none⟩) t292.length co12) y304 := (by rw [hw, Ny304.out]; exact HP19.1); clear HP19; have n0_ := Aside0.mk (hp_); have n1_ := Aside0.mk (Kd.R_over' (v := (.slice (some ⟨go12, 0, none⟩) t292.length co12)) (by (with_reducible repeat (first | apply Kd.R_alloc | apply Kd.R_drewN | apply Kd.R_drew)); exact HO297.out) (Kd.S_typed HO294.out) (by decide) hg); have n2_ := Aside0.mk ((by rw [hw]; exact below_set (HB.out) GB12.out : Below w.heap.size w w20)); clear HO294; clear HO297; clear HB; clear HO303; have HO294 := n0_; have HO297 := n1_; have HB := n2_; clear n0_ n1_ n2_; clear hg hw hp_))
            go_ret2
            exact ⟨_, by first | rfl | (simp [errW_none, errW_some] <;> rfl) | (simp [*, errW_none, errW_some] <;> rfl), by (with_reducible repeat (first | apply Kd.S_alloc | apply Kd.S_drewN | apply Kd.S_drew)); exact HO294.out, by repeat (first | (with_reducible first | exact HB.out | apply below_alloc | apply pw_below_drewN | apply below_drew1) | exact HB.out)⟩
          · rw [if_neg c11] at H
            exact absurd H (by simp)
        · rw [if_neg c10] at H
          have c10b0 : (t301 == 0) = false := beq_eq_false_iff_ne.mpr c10
          have c10b1 : (t301 != 0) = true := bne_iff_ne.mpr c10
          simp only [Option.some.injEq, Prod.mk.injEq] at H
          obtain ⟨rfl, rfl⟩ := H
          go_enter Try.func40, Try.ntmps40
          go_wp2_with (first | ((with_reducible refine gate_callee (f := 59) rfl ?_); refine goesL_ (some 12) rfl rfl Try.func59 (by kernel_rfl) rfl #[.slice A0 l0.length c0] rfl (by (try simp only [List.map_toArray, List.map_cons, List.map_nil]); first | done | rfl | (simp only [List.length_drop, List.length_take]; rfl)) ?_; (with_reducible refine (net_copied.calls k _ _ l0 t292 _ ?side1 ?side2 A4.out).mono ?_); (case side1 => repeat (first | exact HR0.out | (with_reducible refine Kd.C_alloc ?_ _) | (with_reducible refine Kd.C_drewN ?_ _) | (with_reducible refine Kd.C_drew ?_))); (case side2 => exact HC0.out); rintro e w21 ⟨v293, rfl, ho0, hb⟩; refine ⟨_, rfl, ?_⟩; have n0_ := Aside0.mk (Kd.S_lower ho0 (below_size (by repeat (first | (with_reducible first | exact HB.out | apply below_alloc | apply pw_below_drewN | apply below_drew1) | exact HB.out)))); have n1_ := Aside0.mk (below_step (by repeat (first | (with_reducible first | exact HB.out | apply below_alloc | apply pw_below_drewN | apply below_drew1) | exact HB.out)) hb); clear HB; have HO294 := n0_; have HB := n1_; clear n0_ n1_; (try clear hb); (try clear hb2); (try clear hk); (try clear hi); (try clear ho0)) | ((with_reducible refine gate_dst (N := 15) rfl ?_); refine Kd.R_lit (Kd.int .i64) _ 3 ?hg (N := 15) ?hd (xs := ([a1] : List Int)) (inner := [.int .i64 a1]) (ok := fun _ => True) (okp := fun _ => True) ?hr ?hp (fun _ hk => hk) trivial (Below.refl _ _) (Nat.le_refl _) (by simp) ?_; (case hd => rfl); (case hg => rfl); (case hr => first | (go_simp; done) | (go_simp; rfl)); (case hp => exact (Reps.one (show Kd.M (Kd.int .i64) _ _ _ a1 [.int .i64 a1] from rfl) (Reps.none _ _))); intro v296 w22 ho23 hb hg_ hnew_; clear hg_ hnew_; (first | rw [← Ny295.out] at ho23 | (simp only [Int.reduceToNat] at ho23; rw [← Ny295.out] at ho23)); have n0_ := Aside0.mk (Kd.S_below (by (with_reducible repeat (first | apply Kd.S_alloc | apply Kd.S_drewN | apply Kd.S_drew)); exact HO294.out) hb); have n1_ := Aside0.mk (Kd.R_lower ho23 (below_size (by repeat (first | (with_reducible first | exact HB.out | apply below_alloc | apply pw_below_drewN | apply below_drew1) | exact HB.out)))); have n2_ := Aside0.mk (below_step (by repeat (first | (with_reducible first | exact HB.out | apply below_alloc | apply pw_below_drewN | apply below_drew1) | exact HB.out)) hb); clear HO294; clear HB; have HO294 := n0_; have HO297 := n1_; have HB := n2_; clear n0_ n1_ n2_; clear hb ho23; obtain ⟨Ao24, co24, eo24⟩ := Kd.R_slice HO297.out; subst eo24) | ((with_reducible refine gate_callee (f := 60) rfl ?_); refine goesL_ (some 16) rfl rfl Try.func60 (by kernel_rfl) rfl #[.slice A0 l0.length c0, .slice Ao24 y295.length co24] rfl (by (try simp only [List.map_toArray, List.map_cons, List.map_nil]); first | done | rfl | (simp only [List.length_drop, List.length_take]; rfl)) ?_; (with_reducible refine (net_at.calls k _ _ l0 _ _ y295 true _ ?side1 ?side2 ?side3 ?side4 A5.out).mono ?_); (case side1 => repeat (first | exact (Kd.C_below HR0.out HB.out) | (with_reducible refine Kd.C_alloc ?_ _) | (with_reducible refine Kd.C_drewN ?_ _) | (with_reducible refine Kd.C_drew ?_))); (case side2 => exact HC0.out); (case side3 => repeat (first | exact (Kd.R_reads' HO297.out).2.2 | (with_reducible refine Kd.C_alloc ?_ _) | (with_reducible refine Kd.C_drewN ?_ _) | (with_reducible refine Kd.C_drew ?_))); (case side4 => exact (Kd.R_reads' HO297.out).2.1); rintro e w25 ⟨rfl, hb⟩; refine ⟨_, rfl, ?_⟩; have n0_ := Aside0.mk (Kd.S_below (by (with_reducible repeat (first | apply Kd.S_alloc | apply Kd.S_drewN | apply Kd.S_drew)); exact HO294.out) hb); have n1_ := Aside0.mk (Kd.R_below (by (with_reducible repeat (first | apply Kd.R_alloc | apply Kd.R_drewN | apply Kd.R_drew)); exact HO297.out) hb); have n2_ := Aside0.mk (below_step (by repeat (first | (with_reducible first | exact HB.out | apply below_alloc | apply pw_below_drewN | apply below_drew1) | exact HB.out)) hb); clear HO294; clear HO297; clear HB; have HO294 := n0_; have HO297 := n1_; have HB := n2_; clear n0_ n1_ n2_; (try clear hb); (try clear hb2); (try clear hk); (try clear hi); have p299 : 0 ≤ (a1 : Int) := of_decide_eq_true (by first | (with_reducible assumption) | assumption); have q299 : a1 < (l0.length : Int) := of_decide_eq_true (by first | (with_reducible assumption) | assumption); obtain ⟨ad299, A299_1, c299_1, e299, hx299_0, hx299_1, hl299_1, hi299_1⟩ := at_T40 HR0.out a1 p299 q299; cases e299; replace hx299_0 := (HB.out.cell (World.block_lt_of_cell? w _ hx299_0)).trans hx299_0; replace hx299_1 := (HB.out.cell (World.block_lt_of_cell? w _ hx299_1)).trans hx299_1; have HR299_1 := Aside0.mk hi299_1; have HC299_1 := Aside0.mk hl299_1; clear hi299_1 hl299_1; replace p299 := eq_true p299; replace q299 := eq_true q299) | ((with_reducible refine gate_callee (f := 65) rfl ?_); refine goesL_ (some 26) rfl rfl Try.func65 (by kernel_rfl) rfl #[.slice A299_1 ((rd_T40 l0 a1).f1).length c299_1, .int .i64 a2] rfl (by (try simp only [List.map_toArray, List.map_cons, List.map_nil]); first | done | rfl | (simp only [List.length_drop, List.length_take]; rfl)) ?_; (with_reducible refine (crc_Turn.calls _ _ ((rd_T40 l0 a1).f1) a2 t300 t301 _ ?side1 ?side2 A9.out).mono ?_); (case side1 => repeat (first | exact (Kd.C_below HR299_1.out HB.out) | (with_reducible refine Kd.C_alloc ?_ _) | (with_reducible refine Kd.C_drewN ?_ _) | (with_reducible refine Kd.C_drew ?_))); (case side2 => exact HC299_1.out); rintro e w26 ⟨v302, rfl, ho0, hb⟩; refine ⟨_, rfl, ?_⟩; have n0_ := Aside0.mk (Kd.S_elder' (by (with_reducible repeat (first | apply Kd.S_alloc | apply Kd.S_drewN | apply Kd.S_drew)); exact HO294.out) (Kd.R_base ho0) hb); have n1_ := Aside0.mk (Kd.R_below (by (with_reducible repeat (first | apply Kd.R_alloc | apply Kd.R_drewN | apply Kd.R_drew)); exact HO297.out) hb); have n2_ := Aside0.mk (Kd.R_lower ho0 (below_size (by repeat (first | (with_reducible first | exact HB.out | apply below_alloc | apply pw_below_drewN | apply below_drew1) | exact HB.out)))); have n3_ := Aside0.mk (below_step (by repeat (first | (with_reducible first | exact HB.out | apply below_alloc | apply pw_below_drewN | apply below_drew1) | exact HB.out)) hb); clear HO294; clear HO297; clear HB; have HO294 := n0_; have HO297 := n1_; have HO303 := n2_; have HB := n3_; clear n0_ n1_ n2_ n3_; (try clear hb); (try clear hb2); (try clear hk); (try clear hi); (try clear ho0)))
          go_ret2
          exact ⟨_, by first | rfl | (simp [errW_none, errW_some] <;> rfl) | (simp [*, errW_none, errW_some] <;> rfl), by (with_reducible repeat (first | apply Kd.S_alloc | apply Kd.S_drewN | apply Kd.S_drew)); exact Kd.S_mono HO294.out (fun _ hk => trivial), by repeat (first | (with_reducible first | exact HB.out | apply below_alloc | apply pw_below_drewN | apply below_drew1) | exact HB.out)⟩
      · rw [if_neg c8] at H
        exact absurd H (by simp)
    · rw [if_neg c7] at H
      exact absurd H (by simp)
  · replace c6 := Bool.eq_false_iff.mpr c6
    subst c6
    have H1 : (some (t292, 1)) = some (r1, r2) := by rw [if_neg (show ¬ (false = true) by decide)] at H; exact H
    clear H
    have H := H1
    clear H1
    simp only [Option.some.injEq, Prod.mk.injEq] at H
    obtain ⟨rfl, rfl⟩ := H
    go_enter Try.func40, Try.ntmps40
    go_wp2_with (first | ((with_reducible refine gate_callee (f := 59) rfl ?_); refine goesL_ (some 12) rfl rfl Try.func59 (by kernel_rfl) rfl #[.slice A0 l0.length c0] rfl (by (try simp only [List.map_toArray, List.map_cons, List.map_nil]); first | done | rfl | (simp only [List.length_drop, List.length_take]; rfl)) ?_; (with_reducible refine (net_copied.calls k _ _ l0 t292 _ ?side1 ?side2 A4.out).mono ?_); (case side1 => repeat (first | exact HR0.out | (with_reducible refine Kd.C_alloc ?_ _) | (with_reducible refine Kd.C_drewN ?_ _) | (with_reducible refine Kd.C_drew ?_))); (case side2 => exact HC0.out); rintro e w27 ⟨v293, rfl, ho0, hb⟩; refine ⟨_, rfl, ?_⟩; have n0_ := Aside0.mk (Kd.S_lower ho0 (below_size (by repeat (first | (with_reducible first | exact HB.out | apply below_alloc | apply pw_below_drewN | apply below_drew1) | exact HB.out)))); have n1_ := Aside0.mk (below_step (by repeat (first | (with_reducible first | exact HB.out | apply below_alloc | apply pw_below_drewN | apply below_drew1) | exact HB.out)) hb); clear HB; have HO294 := n0_; have HB := n1_; clear n0_ n1_; (try clear hb); (try clear hb2); (try clear hk); (try clear hi); (try clear ho0)) | ((with_reducible refine gate_dst (N := 15) rfl ?_); refine Kd.R_lit (Kd.int .i64) _ 3 ?hg (N := 15) ?hd (xs := ([a1] : List Int)) (inner := [.int .i64 a1]) (ok := fun _ => True) (okp := fun _ => True) ?hr ?hp (fun _ hk => hk) trivial (Below.refl _ _) (Nat.le_refl _) (by simp) ?_; (case hd => rfl); (case hg => rfl); (case hr => first | (go_simp; done) | (go_simp; rfl)); (case hp => exact (Reps.one (show Kd.M (Kd.int .i64) _ _ _ a1 [.int .i64 a1] from rfl) (Reps.none _ _))); intro v296 w28 ho29 hb hg_ hnew_; clear hg_ hnew_; (first | rw [← Ny295.out] at ho29 | (simp only [Int.reduceToNat] at ho29; rw [← Ny295.out] at ho29)); have n0_ := Aside0.mk (Kd.S_below (by (with_reducible repeat (first | apply Kd.S_alloc | apply Kd.S_drewN | apply Kd.S_drew)); exact HO294.out) hb); have n1_ := Aside0.mk (Kd.R_lower ho29 (below_size (by repeat (first | (with_reducible first | exact HB.out | apply below_alloc | apply pw_below_drewN | apply below_drew1) | exact HB.out)))); have n2_ := Aside0.mk (below_step (by repeat (first | (with_reducible first | exact HB.out | apply below_alloc | apply pw_below_drewN | apply below_drew1) | exact HB.out)) hb); clear HO294; clear HB; have HO294 := n0_; have HO297 := n1_; have HB := n2_; clear n0_ n1_ n2_; clear hb ho29; obtain ⟨Ao30, co30, eo30⟩ := Kd.R_slice HO297.out; subst eo30) | ((with_reducible refine gate_callee (f := 60) rfl ?_); refine goesL_ (some 16) rfl rfl Try.func60 (by kernel_rfl) rfl #[.slice A0 l0.length c0, .slice Ao30 y295.length co30] rfl (by (try simp only [List.map_toArray, List.map_cons, List.map_nil]); first | done | rfl | (simp only [List.length_drop, List.length_take]; rfl)) ?_; (with_reducible refine (net_at.calls k _ _ l0 _ _ y295 false _ ?side1 ?side2 ?side3 ?side4 A5.out).mono ?_); (case side1 => repeat (first | exact (Kd.C_below HR0.out HB.out) | (with_reducible refine Kd.C_alloc ?_ _) | (with_reducible refine Kd.C_drewN ?_ _) | (with_reducible refine Kd.C_drew ?_))); (case side2 => exact HC0.out); (case side3 => repeat (first | exact (Kd.R_reads' HO297.out).2.2 | (with_reducible refine Kd.C_alloc ?_ _) | (with_reducible refine Kd.C_drewN ?_ _) | (with_reducible refine Kd.C_drew ?_))); (case side4 => exact (Kd.R_reads' HO297.out).2.1); rintro e w31 ⟨rfl, hb⟩; refine ⟨_, rfl, ?_⟩; have n0_ := Aside0.mk (Kd.S_below (by (with_reducible repeat (first | apply Kd.S_alloc | apply Kd.S_drewN | apply Kd.S_drew)); exact HO294.out) hb); have n1_ := Aside0.mk (Kd.R_below (by (with_reducible repeat (first | apply Kd.R_alloc | apply Kd.R_drewN | apply Kd.R_drew)); exact HO297.out) hb); have n2_ := Aside0.mk (below_step (by repeat (first | (with_reducible first | exact HB.out | apply below_alloc | apply pw_below_drewN | apply below_drew1) | exact HB.out)) hb); clear HO294; clear HO297; clear HB; have HO294 := n0_; have HO297 := n1_; have HB := n2_; clear n0_ n1_ n2_; (try clear hb); (try clear hb2); (try clear hk); (try clear hi)))
    go_ret2
    exact ⟨_, by first | rfl | (simp [errW_none, errW_some] <;> rfl) | (simp [*, errW_none, errW_some] <;> rfl), by (with_reducible repeat (first | apply Kd.S_alloc | apply Kd.S_drewN | apply Kd.S_drew)); exact HO294.out, by repeat (first | (with_reducible first | exact HB.out | apply below_alloc | apply pw_below_drewN | apply below_drew1) | exact HB.out)⟩

/-! ### net_Twice: function 41 -/
def net_Twice.f (k : Nat) (l0 : List (S40)) (a1 : Int) : Option ((List (S40)) × Int) := (net_copied.f k l0).bind fun t305 => ((net_at.f k l0 (([a1] : List Int))).bind fun t311 => (if t311 = true then (if (l0.length : Int) ≥ 512 then (some (t305, 3)) else (if 0 ≤ a1 then (if a1 < (l0.length : Int) then ((net_own.f ((rd_T40 l0 a1).f0) ((rd_T40 l0 a1).f1)).bind fun bt313 => (if t305.length < 4398046511104 then (some ((t305 ++ [(⟨bt313.1, bt313.2⟩ : S40)]), 0)) else (none))) else (none)) else (none))) else (some (t305, 1))))
theorem net_Twice.mono : ∀ a0 a1 k, LeO (net_Twice.f k a0 a1) (net_Twice.f (k + 1) a0 a1) := by
  intro a0 a1 k
  unfold net_Twice.f
  repeat' first
      | (with_reducible exact net_at.mono _ _ _)
      | (with_reducible exact net_copied.mono _ _)
      | (with_reducible exact LeO.refl _)
      | (with_reducible exact LeO.none _)
      | (with_reducible refine LeO.ite ?_ ?_)
      | (with_reducible refine LeO.bind ?_ (fun _ => ?_))
      | exact net_at.mono _ _ _
      | exact net_copied.mono _ _
      | exact LeO.none _
      | refine LeO.ite ?_ ?_
      | refine LeO.bind ?_ (fun _ => ?_)
set_option maxHeartbeats 8000000 in
set_option maxRecDepth 100000 in
theorem net_Twice.calls (k : Nat) (A0 : Option Addr) (c0 : Nat) (l0 : List (S40)) (a1 : Int) (r1 : List (S40)) (r2 : Int) (w : World) (hr0 : Kd.C k40 w A0 l0.length l0) (hc0 : l0.length ≤ c0) (h : net_Twice.f k l0 a1 = some (r1, r2)) :
    Calls Try.prog 41 #[.slice A0 l0.length c0, .int .i64 a1] w fun e w' => ∃ v0_ : Value, e = .returned (.tuple #[v0_, .int .i64 r2]) ∧ Kd.S k40 40 w' w.heap.size (fun _ => True) v0_ r1 ∧ Below w.heap.size w w' := by
  have hu40 := Try.underlying40
  have HR0 := Aside0.mk hr0
  have HC0 := Aside0.mk hc0
  clear hr0 hc0
  have HB := Aside0.mk (Below.refl w.heap.size w)
  have H : ((net_copied.f k l0).bind fun t305 => ((net_at.f k l0 (([a1] : List Int))).bind fun t311 => (if t311 = true then (if (l0.length : Int) ≥ 512 then (some (t305, 3)) else (if 0 ≤ a1 then (if a1 < (l0.length : Int) then ((net_own.f ((rd_T40 l0 a1).f0) ((rd_T40 l0 a1).f1)).bind fun bt313 => (if t305.length < 4398046511104 then (some ((t305 ++ [(⟨bt313.1, bt313.2⟩ : S40)]), 0)) else (none))) else (none)) else (none))) else (some (t305, 1))))) = some (r1, r2) := h
  clear h
  replace H := Option.bind_eq_some_iff.mp H
  obtain ⟨t305, A30, H⟩ := H
  replace H : ((net_at.f k l0 (([a1] : List Int))).bind fun t311 => (if t311 = true then (if (l0.length : Int) ≥ 512 then (some (t305, 3)) else (if 0 ≤ a1 then (if a1 < (l0.length : Int) then ((net_own.f ((rd_T40 l0 a1).f0) ((rd_T40 l0 a1).f1)).bind fun bt313 => (if t305.length < 4398046511104 then (some ((t305 ++ [(⟨bt313.1, bt313.2⟩ : S40)]), 0)) else (none))) else (none)) else (none))) else (some (t305, 1)))) = some (r1, r2) := H
  have A3 := Aside0.mk A30
  clear A30
  obtain ⟨y308, hy308⟩ : ∃ y_ : List Int, y_ = (([a1] : List Int)) := ⟨_, rfl⟩
  replace H : ((net_at.f k l0 y308).bind fun t311 => (if t311 = true then (if (l0.length : Int) ≥ 512 then (some (t305, 3)) else (if 0 ≤ a1 then (if a1 < (l0.length : Int) then ((net_own.f ((rd_T40 l0 a1).f0) ((rd_T40 l0 a1).f1)).bind fun bt313 => (if t305.length < 4398046511104 then (some ((t305 ++ [(⟨bt313.1, bt313.2⟩ : S40)]), 0)) else (none))) else (none)) else (none))) else (some (t305, 1)))) = some (r1, r2) := by first | (rw [hy308]; with_reducible exact H) | (have H2_ := (Option.bind_some _ _).symm.trans H; rw [hy308]; with_reducible exact H2_) | (have H2_ := (Option.bind_some _ _).symm.trans H; with_reducible exact H2_) | with_reducible exact H | (rw [hy308]; exact H) | exact H
  have Ny308 := Aside0.mk hy308
  clear hy308
  replace H := Option.bind_eq_some_iff.mp H
  obtain ⟨t311, A40, H⟩ := H
  replace H : (if t311 = true then (if (l0.length : Int) ≥ 512 then (some (t305, 3)) else (if 0 ≤ a1 then (if a1 < (l0.length : Int) then ((net_own.f ((rd_T40 l0 a1).f0) ((rd_T40 l0 a1).f1)).bind fun bt313 => (if t305.length < 4398046511104 then (some ((t305 ++ [(⟨bt313.1, bt313.2⟩ : S40)]), 0)) else (none))) else (none)) else (none))) else (some (t305, 1))) = some (r1, r2) := H
  have A4 := Aside0.mk A40
  clear A40
  by_cases c5 : t311 = true
  · subst c5
    have H1 : (if (l0.length : Int) ≥ 512 then (some (t305, 3)) else (if 0 ≤ a1 then (if a1 < (l0.length : Int) then ((net_own.f ((rd_T40 l0 a1).f0) ((rd_T40 l0 a1).f1)).bind fun bt313 => (if t305.length < 4398046511104 then (some ((t305 ++ [(⟨bt313.1, bt313.2⟩ : S40)]), 0)) else (none))) else (none)) else (none))) = some (r1, r2) := by first | (rw [if_pos rfl] at H; exact H) | (rw [if_pos True.intro] at H; exact H)
    clear H
    have H := H1
    clear H1
    by_cases c6 : (l0.length : Int) ≥ 512
    · rw [if_pos c6] at H
      have c6b0 : decide (512 ≤ (l0.length : Int)) = true := decide_eq_true c6
      have c6b1 : decide (512 ≤ l0.length) = true := decide_eq_true (by omega)
      clear c6
      simp only [Option.some.injEq, Prod.mk.injEq] at H
      obtain ⟨rfl, rfl⟩ := H
      go_enter Try.func41, Try.ntmps41
      go_wp2_with (first | ((with_reducible refine gate_callee (f := 59) rfl ?_); refine goesL_ (some 8) rfl rfl Try.func59 (by kernel_rfl) rfl #[.slice A0 l0.length c0] rfl (by (try simp only [List.map_toArray, List.map_cons, List.map_nil]); first | done | rfl | (simp only [List.length_drop, List.length_take]; rfl)) ?_; (with_reducible refine (net_copied.calls k _ _ l0 t305 _ ?side1 ?side2 A3.out).mono ?_); (case side1 => repeat (first | exact HR0.out | (with_reducible refine Kd.C_alloc ?_ _) | (with_reducible refine Kd.C_drewN ?_ _) | (with_reducible refine Kd.C_drew ?_))); (case side2 => exact HC0.out); rintro e w7 ⟨v306, rfl, ho0, hb⟩; refine ⟨_, rfl, ?_⟩; have n0_ := Aside0.mk (Kd.S_lower ho0 (below_size (by repeat (first | (with_reducible first | exact HB.out | apply below_alloc | apply pw_below_drewN | apply below_drew1) | exact HB.out)))); have n1_ := Aside0.mk (below_step (by repeat (first | (with_reducible first | exact HB.out | apply below_alloc | apply pw_below_drewN | apply below_drew1) | exact HB.out)) hb); clear HB; have HO307 := n0_; have HB := n1_; clear n0_ n1_; (try clear hb); (try clear hb2); (try clear hk); (try clear hi); (try clear ho0)) | ((with_reducible refine gate_dst (N := 12) rfl ?_); refine Kd.R_lit (Kd.int .i64) _ 3 ?hg (N := 12) ?hd (xs := ([a1] : List Int)) (inner := [.int .i64 a1]) (ok := fun _ => True) (okp := fun _ => True) ?hr ?hp (fun _ hk => hk) trivial (Below.refl _ _) (Nat.le_refl _) (by simp) ?_; (case hd => rfl); (case hg => rfl); (case hr => first | (go_simp; done) | (go_simp; rfl)); (case hp => exact (Reps.one (show Kd.M (Kd.int .i64) _ _ _ a1 [.int .i64 a1] from rfl) (Reps.none _ _))); intro v309 w8 ho9 hb hg_ hnew_; clear hg_ hnew_; (first | rw [← Ny308.out] at ho9 | (simp only [Int.reduceToNat] at ho9; rw [← Ny308.out] at ho9)); have n0_ := Aside0.mk (Kd.S_below (by (with_reducible repeat (first | apply Kd.S_alloc | apply Kd.S_drewN | apply Kd.S_drew)); exact HO307.out) hb); have n1_ := Aside0.mk (Kd.R_lower ho9 (below_size (by repeat (first | (with_reducible first | exact HB.out | apply below_alloc | apply pw_below_drewN | apply below_drew1) | exact HB.out)))); have n2_ := Aside0.mk (below_step (by repeat (first | (with_reducible first | exact HB.out | apply below_alloc | apply pw_below_drewN | apply below_drew1) | exact HB.out)) hb); clear HO307; clear HB; have HO307 := n0_; have HO310 := n1_; have HB := n2_; clear n0_ n1_ n2_; clear hb ho9; obtain ⟨Ao10, co10, eo10⟩ := Kd.R_slice HO310.out; subst eo10) | ((with_reducible refine gate_callee (f := 60) rfl ?_); refine goesL_ (some 13) rfl rfl Try.func60 (by kernel_rfl) rfl #[.slice A0 l0.length c0, .slice Ao10 y308.length co10] rfl (by (try simp only [List.map_toArray, List.map_cons, List.map_nil]); first | done | rfl | (simp only [List.length_drop, List.length_take]; rfl)) ?_; (with_reducible refine (net_at.calls k _ _ l0 _ _ y308 true _ ?side1 ?side2 ?side3 ?side4 A4.out).mono ?_); (case side1 => repeat (first | exact (Kd.C_below HR0.out HB.out) | (with_reducible refine Kd.C_alloc ?_ _) | (with_reducible refine Kd.C_drewN ?_ _) | (with_reducible refine Kd.C_drew ?_))); (case side2 => exact HC0.out); (case side3 => repeat (first | exact (Kd.R_reads' HO310.out).2.2 | (with_reducible refine Kd.C_alloc ?_ _) | (with_reducible refine Kd.C_drewN ?_ _) | (with_reducible refine Kd.C_drew ?_))); (case side4 => exact (Kd.R_reads' HO310.out).2.1); rintro e w11 ⟨rfl, hb⟩; refine ⟨_, rfl, ?_⟩; have n0_ := Aside0.mk (Kd.S_below (by (with_reducible repeat (first | apply Kd.S_alloc | apply Kd.S_drewN | apply Kd.S_drew)); exact HO307.out) hb); have n1_ := Aside0.mk (Kd.R_below (by (with_reducible repeat (first | apply Kd.R_alloc | apply Kd.R_drewN | apply Kd.R_drew)); exact HO310.out) hb); have n2_ := Aside0.mk (below_step (by repeat (first | (with_reducible first | exact HB.out | apply below_alloc | apply pw_below_drewN | apply below_drew1) | exact HB.out)) hb); clear HO307; clear HO310; clear HB; have HO307 := n0_; have HO310 := n1_; have HB := n2_; clear n0_ n1_ n2_; (try clear hb); (try clear hb2); (try clear hk); (try clear hi)))
      go_ret2
      exact ⟨_, by first | rfl | (simp [errW_none, errW_some] <;> rfl) | (simp [*, errW_none, errW_some] <;> rfl), by (with_reducible repeat (first | apply Kd.S_alloc | apply Kd.S_drewN | apply Kd.S_drew)); exact HO307.out, by repeat (first | (with_reducible first | exact HB.out | apply below_alloc | apply pw_below_drewN | apply below_drew1) | exact HB.out)⟩
    · rw [if_neg c6] at H
      have c6b0 : decide (512 ≤ (l0.length : Int)) = false := decide_eq_false c6
      have c6b1 : decide (512 ≤ l0.length) = false := decide_eq_false (by omega)
      clear c6
      by_cases c12 : 0 ≤ a1
      · rw [if_pos c12] at H
        have c12b0 : decide (0 ≤ a1) = true := decide_eq_true c12
        clear c12
        by_cases c13 : a1 < (l0.length : Int)
        · rw [if_pos c13] at H
          have c13b0 : decide (a1 < (l0.length : Int)) = true := decide_eq_true c13
          clear c13
          replace H := Option.bind_eq_some_iff.mp H
          obtain ⟨⟨t313, t314⟩, A140, H⟩ := H
          replace H : (if t305.length < 4398046511104 then (some ((t305 ++ [(⟨t313, t314⟩ : S40)]), 0)) else (none)) = some (r1, r2) := H
          have A14 := Aside0.mk A140
          clear A140
          by_cases c15 : t305.length < 4398046511104
          · rw [if_pos c15] at H
            have LMc15 := Aside0.mk c15
            clear c15
            obtain ⟨y317, hy317⟩ : ∃ y_ : List (S40), y_ = (t305 ++ [(⟨t313, t314⟩ : S40)]) := ⟨_, rfl⟩
            replace H : (some (y317, 0)) = some (r1, r2) := by first | (rw [hy317]; with_reducible exact H) | (have H2_ := (Option.bind_some _ _).symm.trans H; rw [hy317]; with_reducible exact H2_) | (have H2_ := (Option.bind_some _ _).symm.trans H; with_reducible exact H2_) | with_reducible exact H | (rw [hy317]; exact H) | exact H
            have Ny317 := Aside0.mk hy317
            clear hy317
            simp only [Option.some.injEq, Prod.mk.injEq] at H
            obtain ⟨rfl, rfl⟩ := H
            go_enter Try.func41, Try.ntmps41
            go_wp2_with (first | ((with_reducible refine gate_callee (f := 59) rfl ?_); refine goesL_ (some 8) rfl rfl Try.func59 (by kernel_rfl) rfl #[.slice A0 l0.length c0] rfl (by (try simp only [List.map_toArray, List.map_cons, List.map_nil]); first | done | rfl | (simp only [List.length_drop, List.length_take]; rfl)) ?_; (with_reducible refine (net_copied.calls k _ _ l0 t305 _ ?side1 ?side2 A3.out).mono ?_); (case side1 => repeat (first | exact HR0.out | (with_reducible refine Kd.C_alloc ?_ _) | (with_reducible refine Kd.C_drewN ?_ _) | (with_reducible refine Kd.C_drew ?_))); (case side2 => exact HC0.out); rintro e w16 ⟨v306, rfl, ho0, hb⟩; refine ⟨_, rfl, ?_⟩; have n0_ := Aside0.mk (Kd.S_lower ho0 (below_size (by repeat (first | (with_reducible first | exact HB.out | apply below_alloc | apply pw_below_drewN | apply below_drew1) | exact HB.out)))); have n1_ := Aside0.mk (below_step (by repeat (first | (with_reducible first | exact HB.out | apply below_alloc | apply pw_below_drewN | apply below_drew1) | exact HB.out)) hb); clear HB; have HO307 := n0_; have HB := n1_; clear n0_ n1_; (try clear hb); (try clear hb2); (try clear hk); (try clear hi); (try clear ho0)) | ((with_reducible refine gate_dst (N := 12) rfl ?_); refine Kd.R_lit (Kd.int .i64) _ 3 ?hg (N := 12) ?hd (xs := ([a1] : List Int)) (inner := [.int .i64 a1]) (ok := fun _ => True) (okp := fun _ => True) ?hr ?hp (fun _ hk => hk) trivial (Below.refl _ _) (Nat.le_refl _) (by simp) ?_; (case hd => rfl); (case hg => rfl); (case hr => first | (go_simp; done) | (go_simp; rfl)); (case hp => exact (Reps.one (show Kd.M (Kd.int .i64) _ _ _ a1 [.int .i64 a1] from rfl) (Reps.none _ _))); intro v309 w17 ho18 hb hg_ hnew_; clear hg_ hnew_; (first | rw [← Ny308.out] at ho18 | (simp only [Int.reduceToNat] at ho18; rw [← Ny308.out] at ho18)); have n0_ := Aside0.mk (Kd.S_below (by (with_reducible repeat (first | apply Kd.S_alloc | apply Kd.S_drewN | apply Kd.S_drew)); exact HO307.out) hb); have n1_ := Aside0.mk (Kd.R_lower ho18 (below_size (by repeat (first | (with_reducible first | exact HB.out | apply below_alloc | apply pw_below_drewN | apply below_drew1) | exact HB.out)))); have n2_ := Aside0.mk (below_step (by repeat (first | (with_reducible first | exact HB.out | apply below_alloc | apply pw_below_drewN | apply below_drew1) | exact HB.out)) hb); clear HO307; clear HB; have HO307 := n0_; have HO310 := n1_; have HB := n2_; clear n0_ n1_ n2_; clear hb ho18; obtain ⟨Ao19, co19, eo19⟩ := Kd.R_slice HO310.out; subst eo19) | ((with_reducible refine gate_callee (f := 60) rfl ?_); refine goesL_ (some 13) rfl rfl Try.func60 (by kernel_rfl) rfl #[.slice A0 l0.length c0, .slice Ao19 y308.length co19] rfl (by (try simp only [List.map_toArray, List.map_cons, List.map_nil]); first | done | rfl | (simp only [List.length_drop, List.length_take]; rfl)) ?_; (with_reducible refine (net_at.calls k _ _ l0 _ _ y308 true _ ?side1 ?side2 ?side3 ?side4 A4.out).mono ?_); (case side1 => repeat (first | exact (Kd.C_below HR0.out HB.out) | (with_reducible refine Kd.C_alloc ?_ _) | (with_reducible refine Kd.C_drewN ?_ _) | (with_reducible refine Kd.C_drew ?_))); (case side2 => exact HC0.out); (case side3 => repeat (first | exact (Kd.R_reads' HO310.out).2.2 | (with_reducible refine Kd.C_alloc ?_ _) | (with_reducible refine Kd.C_drewN ?_ _) | (with_reducible refine Kd.C_drew ?_))); (case side4 => exact (Kd.R_reads' HO310.out).2.1); rintro e w20 ⟨rfl, hb⟩; refine ⟨_, rfl, ?_⟩; have n0_ := Aside0.mk (Kd.S_below (by (with_reducible repeat (first | apply Kd.S_alloc | apply Kd.S_drewN | apply Kd.S_drew)); exact HO307.out) hb); have n1_ := Aside0.mk (Kd.R_below (by (with_reducible repeat (first | apply Kd.R_alloc | apply Kd.R_drewN | apply Kd.R_drew)); exact HO310.out) hb); have n2_ := Aside0.mk (below_step (by repeat (first | (with_reducible first | exact HB.out | apply below_alloc | apply pw_below_drewN | apply below_drew1) | exact HB.out)) hb); clear HO307; clear HO310; clear HB; have HO307 := n0_; have HO310 := n1_; have HB := n2_; clear n0_ n1_ n2_; (try clear hb); (try clear hb2); (try clear hk); (try clear hi); have p312 : 0 ≤ (a1 : Int) := of_decide_eq_true (by first | (with_reducible assumption) | assumption); have q312 : a1 < (l0.length : Int) := of_decide_eq_true (by first | (with_reducible assumption) | assumption); obtain ⟨ad312, A312_1, c312_1, e312, hx312_0, hx312_1, hl312_1, hi312_1⟩ := at_T40 HR0.out a1 p312 q312; cases e312; replace hx312_0 := (HB.out.cell (World.block_lt_of_cell? w _ hx312_0)).trans hx312_0; replace hx312_1 := (HB.out.cell (World.block_lt_of_cell? w _ hx312_1)).trans hx312_1; have HR312_1 := Aside0.mk hi312_1; have HC312_1 := Aside0.mk hl312_1; clear hi312_1 hl312_1; replace p312 := eq_true p312; replace q312 := eq_true q312) | ((with_reducible refine gate_callee (f := 66) rfl ?_); refine goesL_ (some 26) rfl rfl Try.func66 (by kernel_rfl) rfl #[.agg #[.int .i64 ((rd_T40 l0 a1).f0), .slice A312_1 ((rd_T40 l0 a1).f1).length c312_1]] rfl (by (try simp only [List.map_toArray, List.map_cons, List.map_nil]); first | done | rfl | (simp only [List.length_drop, List.length_take]; rfl)) ?_; (with_reducible refine (net_own.calls ((rd_T40 l0 a1).f0) _ _ ((rd_T40 l0 a1).f1) t313 t314 _ ?side1 ?side2 A14.out).mono ?_); (case side1 => repeat (first | exact (Kd.C_below HR312_1.out HB.out) | (with_reducible refine Kd.C_alloc ?_ _) | (with_reducible refine Kd.C_drewN ?_ _) | (with_reducible refine Kd.C_drew ?_))); (case side2 => exact HC312_1.out); rintro e w21 ⟨v315, rfl, ho0, hb⟩; refine ⟨_, rfl, ?_⟩; have n0_ := Aside0.mk (Kd.S_elder' (by (with_reducible repeat (first | apply Kd.S_alloc | apply Kd.S_drewN | apply Kd.S_drew)); exact HO307.out) (Kd.R_base ho0) hb); have n1_ := Aside0.mk (Kd.R_below (by (with_reducible repeat (first | apply Kd.R_alloc | apply Kd.R_drewN | apply Kd.R_drew)); exact HO310.out) hb); have n2_ := Aside0.mk (Kd.R_lower ho0 (below_size (by repeat (first | (with_reducible first | exact HB.out | apply below_alloc | apply pw_below_drewN | apply below_drew1) | exact HB.out)))); have n3_ := Aside0.mk (below_step (by repeat (first | (with_reducible first | exact HB.out | apply below_alloc | apply pw_below_drewN | apply below_drew1) | exact HB.out)) hb); clear HO307; clear HO310; clear HB; have HO307 := n0_; have HO310 := n1_; have HO316 := n2_; have HB := n3_; clear n0_ n1_ n2_ n3_; (try clear hb); (try clear hb2); (try clear hk); (try clear hi); (try clear ho0); obtain ⟨Ao23, co23, eo23⟩ := Kd.R_slice HO316.out; subst eo23) | ((with_reducible refine gate_builtin (b := .append) (xs := #[.tmp 21, .tmp 27]) rfl ?_); at_builtin; refine Kd.S_append k40 (w0 := w) w.heap.size rfl (.tmp 21) (.tmp 27) 33 40 (.agg #[(.int .i64 0), (.slice none 0 0)]) 32 rfl Try.underlying33 info40 rfl (by decide) (by omega) v306 t305 (⟨t313, t314⟩ : S40) [.int .i64 t313, .slice Ao23 t314.length co23] (fun _ => True) (fun k_ => some k_ = (.slice Ao23 t314.length co23 : Value).ownBlock) rfl rfl ?aP (fun k_ hk_ => ((Kd.R_mono (ok' := fun k_ => ((fun _ => True)) k_ ∧ some k_ ≠ (v306 : Value).ownBlock) (Kd.R_apart' (HO316.out) (Kd.S_typed HO307.out) (by decide)) (fun k_ hk => ⟨trivial, hk.2⟩))).1 k_ hk_.symm) ?aF ?aO ?aB ?aS ?aL ?_; (case aP => exact k40_mkM _ _ _ (⟨t313, t314⟩ : S40) (Kd.R_mono (Kd.R_tight rfl (Kd.R_mono (ok' := fun k_ => ((fun _ => True)) k_ ∧ some k_ ≠ (v306 : Value).ownBlock) (Kd.R_apart' (HO316.out) (Kd.S_typed HO307.out) (by decide)) (fun k_ hk => ⟨trivial, hk.2⟩))) (fun _ h_ => h_))); (case aB => exact (by repeat (first | (with_reducible first | exact HB.out | apply below_alloc | apply pw_below_drewN | apply below_drew1) | exact HB.out))); (case aF => exact (fun _ _ => trivial)); (case aO => exact (by (with_reducible repeat (first | apply Kd.S_alloc | apply Kd.S_drewN | apply Kd.S_drew)); exact Kd.S_mono HO307.out (fun k_ hk => ⟨trivial, fun e_ => hk.2 e_⟩))); (case aS => exact (below_size (by repeat (first | (with_reducible first | exact HB.out | apply below_alloc | apply pw_below_drewN | apply below_drew1) | exact HB.out)))); (case aL => have := LMc15.out; omega); intro v318 w22 ho hb hg hat; rw [← Ny317.out] at ho; have n0_ := Aside0.mk (Kd.R_over' (by (with_reducible repeat (first | apply Kd.R_alloc | apply Kd.R_drewN | apply Kd.R_drew)); exact HO310.out) (Kd.S_typed (by (with_reducible repeat (first | apply Kd.S_alloc | apply Kd.S_drewN | apply Kd.S_drew)); exact HO307.out)) (by decide) hg); have n1_ := Aside0.mk (hb); have n2_ := Aside0.mk (ho); clear HO310; clear HB; clear HO307; clear HO316; have HO310 := n0_; have HB := n1_; have HO319 := n2_; clear n0_ n1_ n2_; clear ho hb hg hat))
            go_ret2
            exact ⟨_, by first | rfl | (simp [errW_none, errW_some] <;> rfl) | (simp [*, errW_none, errW_some] <;> rfl), by (with_reducible repeat (first | apply Kd.S_alloc | apply Kd.S_drewN | apply Kd.S_drew)); exact HO319.out, by repeat (first | (with_reducible first | exact HB.out | apply below_alloc | apply pw_below_drewN | apply below_drew1) | exact HB.out)⟩
          · rw [if_neg c15] at H
            exact absurd H (by simp)
        · rw [if_neg c13] at H
          exact absurd H (by simp)
      · rw [if_neg c12] at H
        exact absurd H (by simp)
  · replace c5 := Bool.eq_false_iff.mpr c5
    subst c5
    have H1 : (some (t305, 1)) = some (r1, r2) := by rw [if_neg (show ¬ (false = true) by decide)] at H; exact H
    clear H
    have H := H1
    clear H1
    simp only [Option.some.injEq, Prod.mk.injEq] at H
    obtain ⟨rfl, rfl⟩ := H
    go_enter Try.func41, Try.ntmps41
    go_wp2_with (first | ((with_reducible refine gate_callee (f := 59) rfl ?_); refine goesL_ (some 8) rfl rfl Try.func59 (by kernel_rfl) rfl #[.slice A0 l0.length c0] rfl (by (try simp only [List.map_toArray, List.map_cons, List.map_nil]); first | done | rfl | (simp only [List.length_drop, List.length_take]; rfl)) ?_; (with_reducible refine (net_copied.calls k _ _ l0 t305 _ ?side1 ?side2 A3.out).mono ?_); (case side1 => repeat (first | exact HR0.out | (with_reducible refine Kd.C_alloc ?_ _) | (with_reducible refine Kd.C_drewN ?_ _) | (with_reducible refine Kd.C_drew ?_))); (case side2 => exact HC0.out); rintro e w24 ⟨v306, rfl, ho0, hb⟩; refine ⟨_, rfl, ?_⟩; have n0_ := Aside0.mk (Kd.S_lower ho0 (below_size (by repeat (first | (with_reducible first | exact HB.out | apply below_alloc | apply pw_below_drewN | apply below_drew1) | exact HB.out)))); have n1_ := Aside0.mk (below_step (by repeat (first | (with_reducible first | exact HB.out | apply below_alloc | apply pw_below_drewN | apply below_drew1) | exact HB.out)) hb); clear HB; have HO307 := n0_; have HB := n1_; clear n0_ n1_; (try clear hb); (try clear hb2); (try clear hk); (try clear hi); (try clear ho0)) | ((with_reducible refine gate_dst (N := 12) rfl ?_); refine Kd.R_lit (Kd.int .i64) _ 3 ?hg (N := 12) ?hd (xs := ([a1] : List Int)) (inner := [.int .i64 a1]) (ok := fun _ => True) (okp := fun _ => True) ?hr ?hp (fun _ hk => hk) trivial (Below.refl _ _) (Nat.le_refl _) (by simp) ?_; (case hd => rfl); (case hg => rfl); (case hr => first | (go_simp; done) | (go_simp; rfl)); (case hp => exact (Reps.one (show Kd.M (Kd.int .i64) _ _ _ a1 [.int .i64 a1] from rfl) (Reps.none _ _))); intro v309 w25 ho26 hb hg_ hnew_; clear hg_ hnew_; (first | rw [← Ny308.out] at ho26 | (simp only [Int.reduceToNat] at ho26; rw [← Ny308.out] at ho26)); have n0_ := Aside0.mk (Kd.S_below (by (with_reducible repeat (first | apply Kd.S_alloc | apply Kd.S_drewN | apply Kd.S_drew)); exact HO307.out) hb); have n1_ := Aside0.mk (Kd.R_lower ho26 (below_size (by repeat (first | (with_reducible first | exact HB.out | apply below_alloc | apply pw_below_drewN | apply below_drew1) | exact HB.out)))); have n2_ := Aside0.mk (below_step (by repeat (first | (with_reducible first | exact HB.out | apply below_alloc | apply pw_below_drewN | apply below_drew1) | exact HB.out)) hb); clear HO307; clear HB; have HO307 := n0_; have HO310 := n1_; have HB := n2_; clear n0_ n1_ n2_; clear hb ho26; obtain ⟨Ao27, co27, eo27⟩ := Kd.R_slice HO310.out; subst eo27) | ((with_reducible refine gate_callee (f := 60) rfl ?_); refine goesL_ (some 13) rfl rfl Try.func60 (by kernel_rfl) rfl #[.slice A0 l0.length c0, .slice Ao27 y308.length co27] rfl (by (try simp only [List.map_toArray, List.map_cons, List.map_nil]); first | done | rfl | (simp only [List.length_drop, List.length_take]; rfl)) ?_; (with_reducible refine (net_at.calls k _ _ l0 _ _ y308 false _ ?side1 ?side2 ?side3 ?side4 A4.out).mono ?_); (case side1 => repeat (first | exact (Kd.C_below HR0.out HB.out) | (with_reducible refine Kd.C_alloc ?_ _) | (with_reducible refine Kd.C_drewN ?_ _) | (with_reducible refine Kd.C_drew ?_))); (case side2 => exact HC0.out); (case side3 => repeat (first | exact (Kd.R_reads' HO310.out).2.2 | (with_reducible refine Kd.C_alloc ?_ _) | (with_reducible refine Kd.C_drewN ?_ _) | (with_reducible refine Kd.C_drew ?_))); (case side4 => exact (Kd.R_reads' HO310.out).2.1); rintro e w28 ⟨rfl, hb⟩; refine ⟨_, rfl, ?_⟩; have n0_ := Aside0.mk (Kd.S_below (by (with_reducible repeat (first | apply Kd.S_alloc | apply Kd.S_drewN | apply Kd.S_drew)); exact HO307.out) hb); have n1_ := Aside0.mk (Kd.R_below (by (with_reducible repeat (first | apply Kd.R_alloc | apply Kd.R_drewN | apply Kd.R_drew)); exact HO310.out) hb); have n2_ := Aside0.mk (below_step (by repeat (first | (with_reducible first | exact HB.out | apply below_alloc | apply pw_below_drewN | apply below_drew1) | exact HB.out)) hb); clear HO307; clear HO310; clear HB; have HO307 := n0_; have HO310 := n1_; have HB := n2_; clear n0_ n1_ n2_; (try clear hb); (try clear hb2); (try clear hk); (try clear hi)))
    go_ret2
    exact ⟨_, by first | rfl | (simp [errW_none, errW_some] <;> rfl) | (simp [*, errW_none, errW_some] <;> rfl), by (with_reducible repeat (first | apply Kd.S_alloc | apply Kd.S_drewN | apply Kd.S_drew)); exact HO307.out, by repeat (first | (with_reducible first | exact HB.out | apply below_alloc | apply pw_below_drewN | apply below_drew1) | exact HB.out)⟩

/-! ### net_Drop: function 42 -/
def net_Drop.f (k : Nat) (l0 : List (S40)) (a1 : Int) : Option ((List (S40)) × Int) := (net_Give.f k l0 a1).bind fun bt320 => (some (bt320.2.2.1, bt320.2.2.2))
theorem net_Drop.mono : ∀ a0 a1 k, LeO (net_Drop.f k a0 a1) (net_Drop.f (k + 1) a0 a1) := by
  intro a0 a1 k
  unfold net_Drop.f
  repeat' first
      | (with_reducible exact net_Give.mono _ _ _)
      | (with_reducible exact LeO.refl _)
      | (with_reducible exact LeO.none _)
      | (with_reducible refine LeO.ite ?_ ?_)
      | (with_reducible refine LeO.bind ?_ (fun _ => ?_))
      | exact net_Give.mono _ _ _
      | exact LeO.none _
      | refine LeO.ite ?_ ?_
      | refine LeO.bind ?_ (fun _ => ?_)
set_option maxHeartbeats 8000000 in
set_option maxRecDepth 100000 in
theorem net_Drop.calls (k : Nat) (A0 : Option Addr) (c0 : Nat) (l0 : List (S40)) (a1 : Int) (r1 : List (S40)) (r2 : Int) (w : World) (hr0 : Kd.C k40 w A0 l0.length l0) (hc0 : l0.length ≤ c0) (h : net_Drop.f k l0 a1 = some (r1, r2)) :
    Calls Try.prog 42 #[.slice A0 l0.length c0, .int .i64 a1] w fun e w' => ∃ v0_ : Value, e = .returned (.tuple #[v0_, .int .i64 r2]) ∧ Kd.N k40 40 w' w.heap.size (fun k_ => (w.heap.size ≤ k_)) v0_ r1 ∧ Below w.heap.size w w' := by
  have hu40 := Try.underlying40
  have HR0 := Aside0.mk hr0
  have HC0 := Aside0.mk hc0
  clear hr0 hc0
  have HB := Aside0.mk (Below.refl w.heap.size w)
  have H : ((net_Give.f k l0 a1).bind fun bt320 => (some (bt320.2.2.1, bt320.2.2.2))) = some (r1, r2) := h
  clear h
  replace H := Option.bind_eq_some_iff.mp H
  obtain ⟨⟨t320, t321, t324, t327⟩, A30, H⟩ := H
  replace H : (some (t324, t327)) = some (r1, r2) := H
  have A3 := Aside0.mk A30
  clear A30
  simp only [Option.some.injEq, Prod.mk.injEq] at H
  obtain ⟨rfl, rfl⟩ := H
  go_enter Try.func42, Try.ntmps42
  go_wp2_with (first | ((with_reducible refine gate_callee (f := 24) rfl ?_); refine goesL_ (some 12) rfl rfl Try.func24 (by kernel_rfl) rfl #[.slice A0 l0.length c0, .int .i64 a1] rfl (by (try simp only [List.map_toArray, List.map_cons, List.map_nil]); first | done | rfl | (simp only [List.length_drop, List.length_take]; rfl)) ?_; (with_reducible refine (net_Give.calls k _ _ l0 a1 t320 t321 t324 t327 _ ?side1 ?side2 A3.out).mono ?_); (case side1 => repeat (first | exact HR0.out | (with_reducible refine Kd.C_alloc ?_ _) | (with_reducible refine Kd.C_drewN ?_ _) | (with_reducible refine Kd.C_drew ?_))); (case side2 => exact HC0.out); rintro e w4 ⟨v322, v325, rfl, ho0, ho1, hb⟩; refine ⟨_, rfl, ?_⟩; have n0_ := Aside0.mk (Kd.V_lower (Kd.V_mono (ok' := fun k_ => (w.heap.size ≤ k_) ∧ some k_ ≠ (v325 : Value).ownBlock) ho0 (fun k_ hk_ => ⟨(Nat.le_trans (below_size (by repeat (first | (with_reducible first | exact HB.out | apply below_alloc | apply pw_below_drewN | apply below_drew1) | exact HB.out))) hk_.1), hk_.2⟩)) (below_size (by repeat (first | (with_reducible first | exact HB.out | apply below_alloc | apply pw_below_drewN | apply below_drew1) | exact HB.out)))); have n1_ := Aside0.mk (Kd.N_lower (Kd.N_mono (ok' := fun k_ => (w.heap.size ≤ k_)) ho1 (fun k_ hk_ => (Nat.le_trans (below_size (by repeat (first | (with_reducible first | exact HB.out | apply below_alloc | apply pw_below_drewN | apply below_drew1) | exact HB.out))) hk_))) (below_size (by repeat (first | (with_reducible first | exact HB.out | apply below_alloc | apply pw_below_drewN | apply below_drew1) | exact HB.out)))); have n2_ := Aside0.mk (below_step (by repeat (first | (with_reducible first | exact HB.out | apply below_alloc | apply pw_below_drewN | apply below_drew1) | exact HB.out)) hb); clear HB; have HO323 := n0_; have HO326 := n1_; have HB := n2_; clear n0_ n1_ n2_; (try clear hb); (try clear hb2); (try clear hk); (try clear hi); (try clear ho0); (try clear ho1)) | ((with_reducible refine gate_dst (N := 6) rfl ?_); refine box_event ?hg (N := 6) ?hd (cs := #[.int .i64 0, .slice none 0 0]) (t := 40) ?hr ?_; (case hd => rfl); (case hg => rfl); (case hr => first | (go_simp; done) | (go_simp; rfl)); intro gb328 hg w5 hbox hb; have n0_ := Aside0.mk (Kd.V_below (Kd.V_elderB (by (with_reducible repeat (first | apply Kd.V_alloc | apply Kd.V_drewN | apply Kd.V_drew)); exact HO323.out) gb328 (Nat.le_of_eq hg.symm)) hb); have n1_ := Aside0.mk (Kd.N_below (Kd.N_elderB (by (with_reducible repeat (first | apply Kd.N_alloc | apply Kd.N_drewN | apply Kd.N_drew)); exact HO326.out) gb328 (Nat.le_of_eq hg.symm)) hb); have n2_ := Aside0.mk (below_step (by repeat (first | (with_reducible first | exact HB.out | apply below_alloc | apply pw_below_drewN | apply below_drew1) | exact HB.out)) hb); have n3_ := Aside0.mk (hbox); have n4_ := Aside0.mk ((by rw [hg]; exact (below_size (by repeat (first | (with_reducible first | exact HB.out | apply below_alloc | apply pw_below_drewN | apply below_drew1) | exact HB.out))) : w.heap.size ≤ gb328)); have n5_ := Aside0.mk ((by rw [hg]; exact (below_size (by repeat (first | (with_reducible first | exact HB.out | apply below_alloc | apply pw_below_drewN | apply below_drew1) | exact HB.out))) : w.heap.size ≤ gb328)); clear HO323; clear HO326; clear HB; have HO323 := n0_; have HO326 := n1_; have HB := n2_; have BK328 := n3_; have GW328 := n4_; have GE328 := n5_; clear n0_ n1_ n2_ n3_ n4_ n5_; clear hb hbox hg; have hcz6_0 : w5.cell? ⟨gb328, 0, none⟩ = some (.int .i64 0) := (blk_cell BK328.out 0).trans rfl; have hcz6_1 : w5.cell? ⟨gb328, 1, none⟩ = some (.slice none 0 0) := (blk_cell BK328.out 1).trans rfl; have hfz6_0 := blk_frozen BK328.out 0; have hfz6_1 := blk_frozen BK328.out 1; obtain ⟨Ao7, co7, eo7⟩ := Kd.V_slice HO323.out; subst eo7))
  go_ret2
  exact ⟨_, by first | rfl | (simp [errW_none, errW_some] <;> rfl) | (simp [*, errW_none, errW_some] <;> rfl), by (with_reducible repeat (first | apply Kd.N_alloc | apply Kd.N_drewN | apply Kd.N_drew)); exact Kd.N_mono (Kd.N_far (p := ⟨gb328, 1, none⟩) (Kd.N_far (p := ⟨gb328, 0, none⟩) (Kd.N_mono HO326.out (fun k_ hk => (⟨hk, hk.2⟩ : _ ∧ k_ ≠ gb328))) (fun _ hk => hk.2) (.int .i64 t320)) (fun _ hk => hk.2) (.slice Ao7 t321.length co7)) (fun _ hk => hk.1.1), by repeat (first | (with_reducible first | exact HB.out | apply below_alloc | apply pw_below_drewN | apply below_drew1 | refine below_set ?_ GE328.out) | exact HB.out)⟩

end Go.Proofs.Ytlppmamhbpcfcaa.MNet
