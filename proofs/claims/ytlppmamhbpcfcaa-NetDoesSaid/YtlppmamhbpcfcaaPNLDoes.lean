/- The law NetDoes, walked: what the Go code of this law comes to, as a plain Lean function; condition: rows as Go holds them. Part A. -/
import Derived.Test.YtlppmamhbpcfcaaPNLDoesB
namespace Go.Proofs.Ytlppmamhbpcfcaa.MNet
open Go.RowKit Go.Proofs.YtlppmamhbpcfcaaW.PrintWords Go.Proofs.YtlppmamhbpcfcaaW.PrintLast Go.Proofs.YtlppmamhbpcfcaaW.PrintMore
attribute [local go_sem] max2_int min2_int max_two min_two max_three min_three max_four min_four   -- for this text's walks alone
set_option linter.unusedVariables false
set_option linter.unusedSimpArgs false

set_option maxHeartbeats 8000000 in
set_option maxRecDepth 100000 in
theorem thrumlaw21_NetDoes.calls (k : Nat) (A0 : Option Addr) (c0 : Nat) (l0 : List (S40)) (A1 : Option Addr) (c1 : Nat) (l1 : List (S40)) (a2 : Int) (a3 : Int) (a4 : Int) (a5 : Int) (r : Bool) (w : World) (hr0 : Kd.C k40 w A0 l0.length l0) (hc0 : l0.length ≤ c0) (hr1 : Kd.C k40 w A1 l1.length l1) (hc1 : l1.length ≤ c1) (h : thrumlaw21_NetDoes.f k l0 l1 a2 a3 a4 a5 = some r) :
    Calls Try.prog 10 #[.slice A0 l0.length c0, .slice A1 l1.length c1, .int .i64 a2, .int .i64 a3, .int .i64 a4, .int .i64 a5] w fun e w' => e = .returned (.bool r) ∧ Below w.heap.size w w' := by
  have HR0 := Aside0.mk hr0
  have HC0 := Aside0.mk hc0
  clear hr0 hc0
  have HR1 := Aside0.mk hr1
  have HC1 := Aside0.mk hc1
  clear hr1 hc1
  have HB := Aside0.mk (Below.refl w.heap.size w)
  have H : ((thrumlaw21_live.f k).bind fun t356 => (if t356 = true then ((thrumref21_Few.f k l0).bind fun t357 => (if t357 = true then ((thrumref21_Few.f k l1).bind fun t358 => (thrumlaw21_NetDoes.i0 k l0 l1 a2 a3 a4 a5 t356 (!t358))) else (thrumlaw21_NetDoes.i0 k l0 l1 a2 a3 a4 a5 t356 true))) else (some false))) = some r := h
  clear h
  replace H := Option.bind_eq_some_iff.mp H
  obtain ⟨t356, A70, H⟩ := H
  replace H : (if t356 = true then ((thrumref21_Few.f k l0).bind fun t357 => (if t357 = true then ((thrumref21_Few.f k l1).bind fun t358 => (thrumlaw21_NetDoes.i0 k l0 l1 a2 a3 a4 a5 t356 (!t358))) else (thrumlaw21_NetDoes.i0 k l0 l1 a2 a3 a4 a5 t356 true))) else (some false)) = some r := H
  have A7 := Aside0.mk A70
  clear A70
  by_cases c8 : t356 = true
  · subst c8
    have H1 : ((thrumref21_Few.f k l0).bind fun t357 => (if t357 = true then ((thrumref21_Few.f k l1).bind fun t358 => (thrumlaw21_NetDoes.i0 k l0 l1 a2 a3 a4 a5 true (!t358))) else (thrumlaw21_NetDoes.i0 k l0 l1 a2 a3 a4 a5 true true))) = some r := by first | (rw [if_pos rfl] at H; exact H) | (rw [if_pos True.intro] at H; exact H)
    clear H
    have H := H1
    clear H1
    have HC9 := Aside0.mk H
    clear H
    go_enter Try.func10, Try.ntmps10
    go_upto_region 4 with (first | ((with_reducible refine gate_callee (f := 20) rfl ?_); refine goesL_ (some 28) rfl rfl Try.func20 (by kernel_rfl) rfl #[] rfl (by (try simp only [List.map_toArray, List.map_cons, List.map_nil]); first | done | rfl | (simp only [List.length_drop, List.length_take]; rfl)) ?_; (with_reducible refine (thrumlaw21_live.calls k  true _ A7.out).mono ?_); rintro e w10 ⟨rfl, hb⟩; refine ⟨_, rfl, ?_⟩; have n0_ := Aside0.mk (below_step (by repeat (first | (with_reducible first | exact HB.out | apply below_alloc | apply pw_below_drewN | apply below_drew1) | exact HB.out)) hb); clear HB; have HB := n0_; clear n0_; (try clear hb); (try clear hb2); (try clear hk); (try clear hi)))
    (try simp only [Act.put, List.setIfInBounds_toArray, List.set_cons_zero, List.set_cons_succ])
    go_cut [38] (fun v38 wc => ∃ (kq : Nat) (x38_8 : Bool), v38 = .bool x38_8 ∧ Aside0 (thrumlaw21_NetDoes.i0 kq l0 l1 a2 a3 a4 a5 true x38_8 = some r) ∧ Aside0 (kq ≤ k) ∧ Aside0 (Below w.heap.size w wc))
    case first =>
      have H := HC9.out
      clear HC9
      replace H := Option.bind_eq_some_iff.mp H
      obtain ⟨t357, A110, H⟩ := H
      replace H : (if t357 = true then ((thrumref21_Few.f k l1).bind fun t358 => (thrumlaw21_NetDoes.i0 k l0 l1 a2 a3 a4 a5 true (!t358))) else (thrumlaw21_NetDoes.i0 k l0 l1 a2 a3 a4 a5 true true)) = some r := H
      have A11 := Aside0.mk A110
      clear A110
      by_cases c12 : t357 = true
      · subst c12
        have H1 : ((thrumref21_Few.f k l1).bind fun t358 => (thrumlaw21_NetDoes.i0 k l0 l1 a2 a3 a4 a5 true (!t358))) = some r := by first | (rw [if_pos rfl] at H; exact H) | (rw [if_pos True.intro] at H; exact H)
        clear H
        have H := H1
        clear H1
        replace H := Option.bind_eq_some_iff.mp H
        obtain ⟨t358, A130, H⟩ := H
        replace H : (thrumlaw21_NetDoes.i0 k l0 l1 a2 a3 a4 a5 true (!t358)) = some r := H
        have A13 := Aside0.mk A130
        clear A130
        have H' := Aside0.mk H
        clear H
        go_wp2_with (first | ((with_reducible refine gate_callee (f := 21) rfl ?_); refine goesL_ (some 32) rfl rfl Try.func21 (by kernel_rfl) rfl #[.slice A0 l0.length c0] rfl (by (try simp only [List.map_toArray, List.map_cons, List.map_nil]); first | done | rfl | (simp only [List.length_drop, List.length_take]; rfl)) ?_; (with_reducible refine (thrumref21_Few.calls k _ _ l0 true _ ?side1 ?side2 A11.out).mono ?_); (case side1 => repeat (first | exact (Kd.C_below HR0.out HB.out) | (with_reducible refine Kd.C_alloc ?_ _) | (with_reducible refine Kd.C_drewN ?_ _) | (with_reducible refine Kd.C_drew ?_))); (case side2 => exact HC0.out); rintro e w14 ⟨rfl, hb⟩; refine ⟨_, rfl, ?_⟩; have n0_ := Aside0.mk (below_step (by repeat (first | (with_reducible first | exact HB.out | apply below_alloc | apply pw_below_drewN | apply below_drew1) | exact HB.out)) hb); clear HB; have HB := n0_; clear n0_; (try clear hb); (try clear hb2); (try clear hk); (try clear hi)) | (go_at_call 21; (with_reducible refine (thrumref21_Few.calls k _ _ l1 t358 _ ?side1 ?side2 A13.out).mono ?_); (case side1 => repeat (first | exact (Kd.C_below HR1.out HB.out) | (with_reducible refine Kd.C_alloc ?_ _) | (with_reducible refine Kd.C_drewN ?_ _) | (with_reducible refine Kd.C_drew ?_))); (case side2 => exact HC1.out); rintro e w15 ⟨rfl, hb⟩; have n0_ := Aside0.mk (below_step (by repeat (first | (with_reducible first | exact HB.out | apply below_alloc | apply pw_below_drewN | apply below_drew1) | exact HB.out)) hb); clear HB; have HB := n0_; clear n0_; (try clear hb); (try clear hb2); (try clear hk); (try clear hi)))
        go_meet
        case rel => exact ⟨_, (!t358), (by first | rfl | (simp; done) | (simp [*]; done)), H', ⟨by first | omega | exact Nat.le_refl _⟩, ⟨by repeat (first | (with_reducible first | exact HB.out | apply below_alloc | apply pw_below_drewN | apply below_drew1) | exact HB.out)⟩⟩
      · replace c12 := Bool.eq_false_iff.mpr c12
        subst c12
        have H1 : (thrumlaw21_NetDoes.i0 k l0 l1 a2 a3 a4 a5 true true) = some r := by rw [if_neg (show ¬ (false = true) by decide)] at H; exact H
        clear H
        have H := H1
        clear H1
        have H' := Aside0.mk H
        clear H
        go_wp2_with (first | ((with_reducible refine gate_callee (f := 21) rfl ?_); refine goesL_ (some 32) rfl rfl Try.func21 (by kernel_rfl) rfl #[.slice A0 l0.length c0] rfl (by (try simp only [List.map_toArray, List.map_cons, List.map_nil]); first | done | rfl | (simp only [List.length_drop, List.length_take]; rfl)) ?_; (with_reducible refine (thrumref21_Few.calls k _ _ l0 false _ ?side1 ?side2 A11.out).mono ?_); (case side1 => repeat (first | exact (Kd.C_below HR0.out HB.out) | (with_reducible refine Kd.C_alloc ?_ _) | (with_reducible refine Kd.C_drewN ?_ _) | (with_reducible refine Kd.C_drew ?_))); (case side2 => exact HC0.out); rintro e w16 ⟨rfl, hb⟩; refine ⟨_, rfl, ?_⟩; have n0_ := Aside0.mk (below_step (by repeat (first | (with_reducible first | exact HB.out | apply below_alloc | apply pw_below_drewN | apply below_drew1) | exact HB.out)) hb); clear HB; have HB := n0_; clear n0_; (try clear hb); (try clear hb2); (try clear hk); (try clear hi)))
        go_meet
        case rel => exact ⟨_, (true), (by first | rfl | (simp; done) | (simp [*]; done)), H', ⟨by first | omega | exact Nat.le_refl _⟩, ⟨by repeat (first | (with_reducible first | exact HB.out | apply below_alloc | apply pw_below_drewN | apply below_drew1) | exact HB.out)⟩⟩
    case rest =>
      clear HC9
      try clear c1
      try clear c2
      try clear p2
      try clear c8
      try clear c10
      try clear c12
      obtain ⟨kq, x38_8, rfl, HA, HJ8, HB⟩ := hcut
      cases kq with
      | zero => exact absurd HA.out (by simp [thrumlaw21_NetDoes.i0])
      | succ kj8 =>
        have H := HA.out
        clear HA
        simp only [thrumlaw21_NetDoes.i0] at H
        by_cases c17 : x38_8 = true
        · subst c17
          have H1 : (some true) = some r := by first | (rw [if_pos rfl] at H; exact H) | (rw [if_pos True.intro] at H; exact H)
          clear H
          have H := H1
          clear H1
          obtain rfl := Option.some.inj H
          go_wp2
          go_ret
          exact ⟨by first | rfl | (simp [errW_none, errW_some] <;> rfl) | (simp [*, errW_none, errW_some] <;> rfl), by repeat (first | (with_reducible first | exact HB.out | apply below_alloc | apply pw_below_drewN | apply below_drew1) | exact HB.out)⟩
        · replace c17 := Bool.eq_false_iff.mpr c17
          subst c17
          have H1 : ((thrumref21_Copy.f kj8 l0).bind fun t359 => ((net_Send.f kj8 l0 l1).bind fun bt362 => (thrumlaw21_NetDoes.g kj8 l0 l1 a2 a3 a4 a5 t359 bt362.1 bt362.2))) = some r := by rw [if_neg (show ¬ (false = true) by decide)] at H; exact H
          clear H
          have H := H1
          clear H1
          replace H := Option.bind_eq_some_iff.mp H
          obtain ⟨t359, A180, H⟩ := H
          replace H : ((net_Send.f kj8 l0 l1).bind fun bt362 => (thrumlaw21_NetDoes.g kj8 l0 l1 a2 a3 a4 a5 t359 bt362.1 bt362.2)) = some r := H
          have A18 := Aside0.mk A180
          clear A180
          replace H := Option.bind_eq_some_iff.mp H
          obtain ⟨⟨t362, t365⟩, A190, H⟩ := H
          replace H : (thrumlaw21_NetDoes.g kj8 l0 l1 a2 a3 a4 a5 t359 t362 t365) = some r := H
          have A19 := Aside0.mk A190
          clear A190
          replace H : (thrumlaw21_NetDoes.g kj8 l0 l1 a2 a3 a4 a5 t359 t362 t365) = some r := H
          have HLa : Aside0 (t362.length < 2199023255552) := by
            by_cases hla : t362.length < 2199023255552
            · exact ⟨hla⟩
            · unfold thrumlaw21_NetDoes.g at H; rw [if_neg hla] at H; cases H
          have HE := Aside0.mk H
          clear H
          go_upto_region 999 with (first | ((with_reducible refine gate_callee (f := 43) rfl ?_); refine goesL_ (some 41) rfl rfl Try.func43 (by kernel_rfl) rfl #[.slice A0 l0.length c0] rfl (by (try simp only [List.map_toArray, List.map_cons, List.map_nil]); first | done | rfl | (simp only [List.length_drop, List.length_take]; rfl)) ?_; (with_reducible refine (thrumref21_Copy.calls kj8 _ _ l0 t359 _ ?side1 ?side2 A18.out).mono ?_); (case side1 => repeat (first | exact (Kd.C_below HR0.out HB.out) | (with_reducible refine Kd.C_alloc ?_ _) | (with_reducible refine Kd.C_drewN ?_ _) | (with_reducible refine Kd.C_drew ?_))); (case side2 => exact HC0.out); rintro e w21 ⟨v360, rfl, ho0, hb⟩; refine ⟨_, rfl, ?_⟩; obtain ⟨Ao24, co24, eo24⟩ := Kd.N_slice (Kd.S_N ho0); subst eo24; have n0_ := Aside0.mk (Kd.N_lower (Kd.N_mono (ok' := fun k_ => True) (Kd.S_N (Kd.S_bound ho0)) (fun k_ hk_ => trivial)) (below_size (by repeat (first | (with_reducible first | exact HB.out | apply below_alloc | apply pw_below_drewN | apply below_drew1) | exact HB.out)))); have n1_ := Aside0.mk (below_step (by repeat (first | (with_reducible first | exact HB.out | apply below_alloc | apply pw_below_drewN | apply below_drew1) | exact HB.out)) hb); clear HB; have HO361 := n0_; have HB := n1_; clear n0_ n1_; (try clear hb); (try clear hb2); (try clear hk); (try clear hi); (try clear ho0); have HRE0 := Aside0.mk (Kd.C_below HR0.out HB.out); have HRE1 := Aside0.mk (Kd.C_below HR1.out HB.out); have HRE6 := Aside0.mk (Kd.N_reads' HO361.out).2; have HB0 := HB; have HBs : Aside0 (Below w21.heap.size w21 w21) := ⟨Below.refl _ _⟩) | ((with_reducible refine gate_callee (f := 22) rfl ?_); refine goesL_ (some 45) rfl rfl Try.func22 (by kernel_rfl) rfl #[.slice A0 l0.length c0, .slice A1 l1.length c1] rfl (by (try simp only [List.map_toArray, List.map_cons, List.map_nil]); first | done | rfl | (simp only [List.length_drop, List.length_take]; rfl)) ?_; (with_reducible refine (net_Send.calls_u kj8 _ _ l0 _ _ l1 t362 t365 _ ?side1 ?side2 ?side3 ?side4 A19.out).mono ?_); (case side1 => repeat (first | exact (Kd.C_below HR0.out HB.out) | (with_reducible refine Kd.C_alloc ?_ _) | (with_reducible refine Kd.C_drewN ?_ _) | (with_reducible refine Kd.C_drew ?_))); (case side2 => exact HC0.out); (case side3 => repeat (first | exact (Kd.C_below HR1.out HB.out) | (with_reducible refine Kd.C_alloc ?_ _) | (with_reducible refine Kd.C_drewN ?_ _) | (with_reducible refine Kd.C_drew ?_))); (case side4 => exact HC1.out); rintro e w22 ⟨v363, rfl, ho0, hb⟩; refine ⟨_, rfl, ?_⟩; obtain ⟨Ao23, co23, eo23⟩ := Kd.N_slice ho0; subst eo23; have HOu := Aside0.mk (Kd.N_lower (Kd.N_mono (ok' := fun k_ => w21.heap.size ≤ k_) ho0 (fun k_ hk_ => Nat.le_trans (below_size (by repeat (first | (with_reducible first | exact HBs.out | apply below_alloc | apply pw_below_drewN | apply below_drew1) | exact HBs.out))) hk_)) (below_size (by repeat (first | (with_reducible first | exact HBs.out | apply below_alloc | apply pw_below_drewN | apply below_drew1) | exact HBs.out)))); have HBs1 := Aside0.mk (below_step (by repeat (first | (with_reducible first | exact HBs.out | apply below_alloc | apply pw_below_drewN | apply below_drew1) | exact HBs.out)) hb); clear HBs; have HBs := HBs1; clear HBs1; replace ho0 := k40u_N ho0; have n0_ := Aside0.mk (Kd.N_elder' (by (with_reducible repeat (first | apply Kd.N_alloc | apply Kd.N_drewN | apply Kd.N_drew)); exact HO361.out) (by first | exact Kd.N_base ho0 | exact Kd.S_base ho0) hb); have n1_ := Aside0.mk (Kd.N_lower (Kd.N_mono (ok' := fun k_ => some k_ ≠ ((.slice Ao24 t359.length co24) : Value).ownBlock) ho0 (fun k_ hk_ => (Kd.fresh' (Kd.N_lt (by (with_reducible repeat (first | apply Kd.N_alloc | apply Kd.N_drewN | apply Kd.N_drew)); exact HO361.out)) k_ hk_))) (below_size (by repeat (first | (with_reducible first | exact HB.out | apply below_alloc | apply pw_below_drewN | apply below_drew1) | exact HB.out)))); have n2_ := Aside0.mk (below_step (by repeat (first | (with_reducible first | exact HB.out | apply below_alloc | apply pw_below_drewN | apply below_drew1) | exact HB.out)) hb); clear HO361; clear HB; have HO361 := n0_; have HO364 := n1_; have HB := n2_; clear n0_ n1_ n2_; (try clear hb); (try clear hb2); (try clear hk); (try clear hi); (try clear ho0)) | ((with_reducible show Code.wp _ (Code.seq _ _) _ _ _); exact thrumlaw21_NetDoes.tailB kj8 _ _ _ _ _ _ _ _ _ _ _ _ _ _ _ _ r t365 ⟨HRE0.out, HRE1.out, HRE6.out.2, HC0.out, HC1.out, HRE6.out.1, HB0.out, HBs.out, HOu.out⟩ (by repeat (first | exact Below.refl _ _ | apply below_alloc | apply pw_below_drewN | apply below_drew1)) HLa.out HE.out _ (by kernel_rfl)))
  · replace c8 := Bool.eq_false_iff.mpr c8
    subst c8
    have H1 : (some false) = some r := by rw [if_neg (show ¬ (false = true) by decide)] at H; exact H
    clear H
    have H := H1
    clear H1
    obtain rfl := Option.some.inj H
    go_enter Try.func10, Try.ntmps10
    go_wp2_with (first | ((with_reducible refine gate_callee (f := 20) rfl ?_); refine goesL_ (some 28) rfl rfl Try.func20 (by kernel_rfl) rfl #[] rfl (by (try simp only [List.map_toArray, List.map_cons, List.map_nil]); first | done | rfl | (simp only [List.length_drop, List.length_take]; rfl)) ?_; (with_reducible refine (thrumlaw21_live.calls k  false _ A7.out).mono ?_); rintro e w26 ⟨rfl, hb⟩; refine ⟨_, rfl, ?_⟩; have n0_ := Aside0.mk (below_step (by repeat (first | (with_reducible first | exact HB.out | apply below_alloc | apply pw_below_drewN | apply below_drew1) | exact HB.out)) hb); clear HB; have HB := n0_; clear n0_; (try clear hb); (try clear hb2); (try clear hk); (try clear hi)))
    go_ret
    exact ⟨by first | rfl | (simp [errW_none, errW_some] <;> rfl) | (simp [*, errW_none, errW_some] <;> rfl), by repeat (first | (with_reducible first | exact HB.out | apply below_alloc | apply pw_below_drewN | apply below_drew1) | exact HB.out)⟩
end Go.Proofs.Ytlppmamhbpcfcaa.MNet
