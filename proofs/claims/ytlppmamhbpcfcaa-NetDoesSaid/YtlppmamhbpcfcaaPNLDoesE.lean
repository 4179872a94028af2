/- The law NetDoes, walked: what the Go code of this law comes to, as a plain Lean function; condition: rows as Go holds them. Part E. -/
import Derived.Test.YtlppmamhbpcfcaaPNLDoesD
namespace Go.Proofs.Ytlppmamhbpcfcaa.MNet
open Go.RowKit Go.Proofs.YtlppmamhbpcfcaaW.PrintWords Go.Proofs.YtlppmamhbpcfcaaW.PrintLast Go.Proofs.YtlppmamhbpcfcaaW.PrintMore
attribute [local go_sem] max2_int min2_int max_two min_two max_three min_three max_four min_four   -- for this text's walks alone
set_option linter.unusedVariables false
set_option linter.unusedSimpArgs false

set_option maxHeartbeats 8000000 in
set_option maxRecDepth 1000000 in
theorem thrumlaw21_NetDoes.tailE (k : Nat) (A0 : Option Addr) (c0 : Nat) (l0 : List (S40)) (A1 : Option Addr) (c1 : Nat) (l1 : List (S40)) (a2 : Int) (a3 : Int) (a4 : Int) (a5 : Int) (A6 : Option Addr) (c6 : Nat) (l6 : List (S40)) (A7 : Option Addr) (c7 : Nat) (l7 : List (S40)) (r : Bool) {w wSa wSb wX : World} (hD : thrumlaw21_NetDoes.Base w wSa wSb A0 c0 l0 A1 c1 l1 A6 c6 l6 A7 c7 l7) (hB : Below wSb.heap.size wSb wX) (hla : l7.length < 2199023255552) (h : thrumlaw21_NetDoes.xx k l0 l1 a2 a3 a4 a5 l6 = some r) {u6 u7 u8 u9 u10 u11 u12 u16 u17 u18 u19 u20 u21 u22 u23 u24 u25 u26 u27 u28 u29 u30 u31 u32 u33 u34 u35 u36 u37 u38 u39 u40 u41 u42 u43 u44 u45 u46 u47 u48 u49 u50 u51 u52 u53 u54 u55 u56 u57 u58 u59 u60 u61 u62 u63 u64 u65 u66 u67 u68 u69 u70 u71 u72 u73 u74 u75 u76 u77 u78 u79 u80 u81 u82 u83 u84 u85 u86 u87 u88 u89 u90 u91 u92 u93 u94 u95 u96 u97 u98 u99 u100 u101 u102 u103 u104 u105 u106 u107 u108 u109 u110 u111 u112 u113 u114 u115 u116 u117 u118 u119 u120 u121 u122 u123 u124 u125 u126 u127 u128 u129 u130 u131 u132 u133 u134 u135 u136 u137 u138 u139 u140 u141 u142 u143 u144 u145 u146 u147 u148 u149 u150 u151 u152 u153 u154 u155 u156 u157 u158 u159 u160 u161 u162 u163 u164 u165 u166 u167 u168 u169 u170 u171 u172 u173 u174 u175 u176 u177 u178 u179 u180 u181 u182 u183 u184 u185 u186 u187 u188 u189 u190 u191 u192 u193 u194 u195 u196 u197 u198 u199 u200 u201 u202 u203 u204 u205 u206 u207 u208 u209 u210 u211 u212 u213 u214 u215 u216 u217 u218 u219 u220 u221 u222 u223 u224 u225 u226 u227 u228 u229 u230 u231 u232 u233 u234 u235 u236 : Value} (C : Code) (hC : C = thrumlaw21_NetDoes.from_ 23 (Try.f10.body.getD .skip)) :
    Code.wp Try.prog C (bodyPost Try.prog Try.f10 (fun e w' => e = .returned (.bool r) ∧ Below w.heap.size w w')) ⟨#[.slice A0 l0.length c0, .slice A1 l1.length c1, .int .i64 a2, .int .i64 a3, .int .i64 a4, .int .i64 a5, u6, u7, u8, u9, u10, u11, u12, .bool true, .slice A6 l6.length c6, .slice A7 l7.length c7, u16, u17, u18, u19, u20, u21, u22, u23, u24, u25, u26, u27, u28, u29, u30, u31, u32, u33, u34, u35, u36, u37, u38, u39, u40, u41, u42, u43, u44, u45, u46, u47, u48, u49, u50, u51, u52, u53, u54, u55, u56, u57, u58, u59, u60, u61, u62, u63, u64, u65, u66, u67, u68, u69, u70, u71, u72, u73, u74, u75, u76, u77, u78, u79, u80, u81, u82, u83, u84, u85, u86, u87, u88, u89, u90, u91, u92, u93, u94, u95, u96, u97, u98, u99, u100, u101, u102, u103, u104, u105, u106, u107, u108, u109, u110, u111, u112, u113, u114, u115, u116, u117, u118, u119, u120, u121, u122, u123, u124, u125, u126, u127, u128, u129, u130, u131, u132, u133, u134, u135, u136, u137, u138, u139, u140, u141, u142, u143, u144, u145, u146, u147, u148, u149, u150, u151, u152, u153, u154, u155, u156, u157, u158, u159, u160, u161, u162, u163, u164, u165, u166, u167, u168, u169, u170, u171, u172, u173, u174, u175, u176, u177, u178, u179, u180, u181, u182, u183, u184, u185, u186, u187, u188, u189, u190, u191, u192, u193, u194, u195, u196, u197, u198, u199, u200, u201, u202, u203, u204, u205, u206, u207, u208, u209, u210, u211, u212, u213, u214, u215, u216, u217, u218, u219, u220, u221, u222, u223, u224, u225, u226, u227, u228, u229, u230, u231, u232, u233, u234, u235, u236], []⟩ wX := by
  have hu40 := Try.underlying40
  have HBE := Aside0.mk (below_step (below_step hD.b0 hD.bs) hB)
  have HR0 := Aside0.mk (Kd.C_below hD.re0 (below_step hD.bs hB))
  have HC0 := Aside0.mk hD.hc0
  have HR1 := Aside0.mk (Kd.C_below hD.re1 (below_step hD.bs hB))
  have HC1 := Aside0.mk hD.hc1
  have HR6 := Aside0.mk (Kd.C_below hD.re6 (below_step hD.bs hB))
  have HC6 := Aside0.mk hD.hc6
  have HR7 := Aside0.mk (Kd.N_reads' (k40u_N (Kd.N_below hD.ou hB))).2.2
  have HC7 := Aside0.mk (Kd.N_reads' (k40u_N (Kd.N_below hD.ou hB))).2.1
  have HD := Aside0.mk hD
  have HBX := Aside0.mk hB
  have HLA := Aside0.mk hla
  clear hD hB hla
  have HB := Aside0.mk (Below.refl wX.heap.size wX)
  subst hC
  conv => arg 2; whnf
  have H : ((net_Swap.f k l0 a3 a4).bind fun bt356 => ((thrumref21_Swap.f k l0 a3 a4).bind fun bt360 => ((thrumref21_Same.f k bt356.1 bt360.1).bind fun t364 => (if t364 = true then (thrumlaw21_NetDoes.x0 k l0 l1 a2 a3 a4 a5 l6 true (bt356.2 != bt360.2)) else (thrumlaw21_NetDoes.x0 k l0 l1 a2 a3 a4 a5 l6 true true))))) = some r := h
  clear h
  replace H := Option.bind_eq_some_iff.mp H
  obtain ⟨⟨t356, t359⟩, A80, H⟩ := H
  replace H : ((thrumref21_Swap.f k l0 a3 a4).bind fun bt360 => ((thrumref21_Same.f k t356 bt360.1).bind fun t364 => (if t364 = true then (thrumlaw21_NetDoes.x0 k l0 l1 a2 a3 a4 a5 l6 true (t359 != bt360.2)) else (thrumlaw21_NetDoes.x0 k l0 l1 a2 a3 a4 a5 l6 true true)))) = some r := H
  have A8 := Aside0.mk A80
  clear A80
  replace H := Option.bind_eq_some_iff.mp H
  obtain ⟨⟨t360, t363⟩, A90, H⟩ := H
  replace H : ((thrumref21_Same.f k t356 t360).bind fun t364 => (if t364 = true then (thrumlaw21_NetDoes.x0 k l0 l1 a2 a3 a4 a5 l6 true (t359 != t363)) else (thrumlaw21_NetDoes.x0 k l0 l1 a2 a3 a4 a5 l6 true true))) = some r := H
  have A9 := Aside0.mk A90
  clear A90
  have HC10 := Aside0.mk H
  clear H
  go_upto_region 25 with (first | ((with_reducible refine gate_callee (f := 38) rfl ?_); refine goesL_ (some 138) rfl rfl Try.func38 (by kernel_rfl) rfl #[.slice A0 l0.length c0, .int .i64 a3, .int .i64 a4] rfl (by (try simp only [List.map_toArray, List.map_cons, List.map_nil]); first | done | rfl | (simp only [List.length_drop, List.length_take]; rfl)) ?_; (with_reducible refine (net_Swap.calls k _ _ l0 a3 a4 t356 t359 _ ?side1 ?side2 A8.out).mono ?_); (case side1 => repeat (first | exact HR0.out | (with_reducible refine Kd.C_alloc ?_ _) | (with_reducible refine Kd.C_drewN ?_ _) | (with_reducible refine Kd.C_drew ?_))); (case side2 => exact HC0.out); rintro e w11 ⟨v357, rfl, ho0, hb⟩; refine ⟨_, rfl, ?_⟩; have n0_ := Aside0.mk (Kd.N_lower (Kd.N_mono (ok' := fun k_ => True) ho0 (fun k_ hk_ => trivial)) (below_size (by repeat (first | (with_reducible first | exact HB.out | apply below_alloc | apply pw_below_drewN | apply below_drew1) | exact HB.out)))); have n1_ := Aside0.mk (below_step (by repeat (first | (with_reducible first | exact HB.out | apply below_alloc | apply pw_below_drewN | apply below_drew1) | exact HB.out)) hb); clear HB; have HO358 := n0_; have HB := n1_; clear n0_ n1_; (try clear hb); (try clear hb2); (try clear hk); (try clear hi); (try clear ho0)) | ((with_reducible refine gate_callee (f := 48) rfl ?_); refine goesL_ (some 145) rfl rfl Try.func48 (by kernel_rfl) rfl #[.slice A0 l0.length c0, .int .i64 a3, .int .i64 a4] rfl (by (try simp only [List.map_toArray, List.map_cons, List.map_nil]); first | done | rfl | (simp only [List.length_drop, List.length_take]; rfl)) ?_; (with_reducible refine (thrumref21_Swap.calls k _ _ l0 a3 a4 t360 t363 _ ?side1 ?side2 A9.out).mono ?_); (case side1 => repeat (first | exact (Kd.C_below HR0.out HB.out) | (with_reducible refine Kd.C_alloc ?_ _) | (with_reducible refine Kd.C_drewN ?_ _) | (with_reducible refine Kd.C_drew ?_))); (case side2 => exact HC0.out); rintro e w12 ⟨v361, rfl, ho0, hb⟩; refine ⟨_, rfl, ?_⟩; have n0_ := Aside0.mk (Kd.N_elder' (by (with_reducible repeat (first | apply Kd.N_alloc | apply Kd.N_drewN | apply Kd.N_drew)); exact HO358.out) (by first | exact Kd.N_base ho0 | exact Kd.S_base ho0) hb); have n1_ := Aside0.mk (Kd.N_lower (Kd.N_mono (ok' := fun k_ => some k_ ≠ (v357 : Value).ownBlock) ho0 (fun k_ hk_ => (Kd.fresh' (Kd.N_lt (by (with_reducible repeat (first | apply Kd.N_alloc | apply Kd.N_drewN | apply Kd.N_drew)); exact HO358.out)) k_ hk_))) (below_size (by repeat (first | (with_reducible first | exact HB.out | apply below_alloc | apply pw_below_drewN | apply below_drew1) | exact HB.out)))); have n2_ := Aside0.mk (below_step (by repeat (first | (with_reducible first | exact HB.out | apply below_alloc | apply pw_below_drewN | apply below_drew1) | exact HB.out)) hb); clear HO358; clear HB; have HO358 := n0_; have HO362 := n1_; have HB := n2_; clear n0_ n1_ n2_; (try clear hb); (try clear hb2); (try clear hk); (try clear hi); (try clear ho0)))
  (try simp only [Act.put, List.setIfInBounds_toArray, List.set_cons_zero, List.set_cons_succ])
  go_cut [156] (fun v156 wc => ∃ (kq : Nat) (x156_9 : Bool), v156 = .bool x156_9 ∧ Aside0 (thrumlaw21_NetDoes.x0 kq l0 l1 a2 a3 a4 a5 l6 true x156_9 = some r) ∧ Aside0 (kq ≤ k) ∧ Aside0 (Below wX.heap.size wX wc))
  case first =>
    have H := HC10.out
    clear HC10
    replace H := Option.bind_eq_some_iff.mp H
    obtain ⟨t364, A130, H⟩ := H
    replace H : (if t364 = true then (thrumlaw21_NetDoes.x0 k l0 l1 a2 a3 a4 a5 l6 true (t359 != t363)) else (thrumlaw21_NetDoes.x0 k l0 l1 a2 a3 a4 a5 l6 true true)) = some r := H
    have A13 := Aside0.mk A130
    clear A130
    by_cases c14 : t364 = true
    · subst c14
      have H1 : (thrumlaw21_NetDoes.x0 k l0 l1 a2 a3 a4 a5 l6 true (t359 != t363)) = some r := by first | (rw [if_pos rfl] at H; exact H) | (rw [if_pos True.intro] at H; exact H)
      clear H
      have H := H1
      clear H1
      have H' := Aside0.mk H
      clear H
      obtain ⟨Ao15, co15, eo15⟩ := Kd.N_slice HO358.out
      subst eo15
      obtain ⟨Ao16, co16, eo16⟩ := Kd.N_slice HO362.out
      subst eo16
      go_wp2_with (first | ((with_reducible refine gate_callee (f := 23) rfl ?_); refine goesL_ (some 150) rfl rfl Try.func23 (by kernel_rfl) rfl #[.slice Ao15 t356.length co15, .slice Ao16 t360.length co16] rfl (by (try simp only [List.map_toArray, List.map_cons, List.map_nil]); first | done | rfl | (simp only [List.length_drop, List.length_take]; rfl)) ?_; (with_reducible refine (thrumref21_Same.calls k _ _ t356 _ _ t360 true _ ?side1 ?side2 ?side3 ?side4 A13.out).mono ?_); (case side1 => repeat (first | exact (Kd.N_reads' HO358.out).2.2 | (with_reducible refine Kd.C_alloc ?_ _) | (with_reducible refine Kd.C_drewN ?_ _) | (with_reducible refine Kd.C_drew ?_))); (case side2 => exact (Kd.N_reads' HO358.out).2.1); (case side3 => repeat (first | exact (Kd.N_reads' HO362.out).2.2 | (with_reducible refine Kd.C_alloc ?_ _) | (with_reducible refine Kd.C_drewN ?_ _) | (with_reducible refine Kd.C_drew ?_))); (case side4 => exact (Kd.N_reads' HO362.out).2.1); rintro e w17 ⟨rfl, hb⟩; refine ⟨_, rfl, ?_⟩; have n0_ := Aside0.mk (Kd.N_below (by (with_reducible repeat (first | apply Kd.N_alloc | apply Kd.N_drewN | apply Kd.N_drew)); exact HO358.out) hb); have n1_ := Aside0.mk (Kd.N_below (by (with_reducible repeat (first | apply Kd.N_alloc | apply Kd.N_drewN | apply Kd.N_drew)); exact HO362.out) hb); have n2_ := Aside0.mk (below_step (by repeat (first | (with_reducible first | exact HB.out | apply below_alloc | apply pw_below_drewN | apply below_drew1) | exact HB.out)) hb); clear HO358; clear HO362; clear HB; have HO358 := n0_; have HO362 := n1_; have HB := n2_; clear n0_ n1_ n2_; (try clear hb); (try clear hb2); (try clear hk); (try clear hi)))
      go_meet
      case rel => exact ⟨_, ((t359 != t363)), (by first | rfl | (simp; done) | (simp [*]; done)), H', ⟨by first | omega | exact Nat.le_refl _⟩, ⟨by repeat (first | (with_reducible first | exact HB.out | apply below_alloc | apply pw_below_drewN | apply below_drew1) | exact HB.out)⟩⟩
    · replace c14 := Bool.eq_false_iff.mpr c14
      subst c14
      have H1 : (thrumlaw21_NetDoes.x0 k l0 l1 a2 a3 a4 a5 l6 true true) = some r := by rw [if_neg (show ¬ (false = true) by decide)] at H; exact H
      clear H
      have H := H1
      clear H1
      have H' := Aside0.mk H
      clear H
      obtain ⟨Ao18, co18, eo18⟩ := Kd.N_slice HO358.out
      subst eo18
      obtain ⟨Ao19, co19, eo19⟩ := Kd.N_slice HO362.out
      subst eo19
      go_wp2_with (first | ((with_reducible refine gate_callee (f := 23) rfl ?_); refine goesL_ (some 150) rfl rfl Try.func23 (by kernel_rfl) rfl #[.slice Ao18 t356.length co18, .slice Ao19 t360.length co19] rfl (by (try simp only [List.map_toArray, List.map_cons, List.map_nil]); first | done | rfl | (simp only [List.length_drop, List.length_take]; rfl)) ?_; (with_reducible refine (thrumref21_Same.calls k _ _ t356 _ _ t360 false _ ?side1 ?side2 ?side3 ?side4 A13.out).mono ?_); (case side1 => repeat (first | exact (Kd.N_reads' HO358.out).2.2 | (with_reducible refine Kd.C_alloc ?_ _) | (with_reducible refine Kd.C_drewN ?_ _) | (with_reducible refine Kd.C_drew ?_))); (case side2 => exact (Kd.N_reads' HO358.out).2.1); (case side3 => repeat (first | exact (Kd.N_reads' HO362.out).2.2 | (with_reducible refine Kd.C_alloc ?_ _) | (with_reducible refine Kd.C_drewN ?_ _) | (with_reducible refine Kd.C_drew ?_))); (case side4 => exact (Kd.N_reads' HO362.out).2.1); rintro e w20 ⟨rfl, hb⟩; refine ⟨_, rfl, ?_⟩; have n0_ := Aside0.mk (Kd.N_below (by (with_reducible repeat (first | apply Kd.N_alloc | apply Kd.N_drewN | apply Kd.N_drew)); exact HO358.out) hb); have n1_ := Aside0.mk (Kd.N_below (by (with_reducible repeat (first | apply Kd.N_alloc | apply Kd.N_drewN | apply Kd.N_drew)); exact HO362.out) hb); have n2_ := Aside0.mk (below_step (by repeat (first | (with_reducible first | exact HB.out | apply below_alloc | apply pw_below_drewN | apply below_drew1) | exact HB.out)) hb); clear HO358; clear HO362; clear HB; have HO358 := n0_; have HO362 := n1_; have HB := n2_; clear n0_ n1_ n2_; (try clear hb); (try clear hb2); (try clear hk); (try clear hi)))
      go_meet
      case rel => exact ⟨_, (true), (by first | rfl | (simp; done) | (simp [*]; done)), H', ⟨by first | omega | exact Nat.le_refl _⟩, ⟨by repeat (first | (with_reducible first | exact HB.out | apply below_alloc | apply pw_below_drewN | apply below_drew1) | exact HB.out)⟩⟩
  case rest =>
    clear HC10
    try clear c1
    try clear c2
    try clear p2
    try clear c3
    try clear c4
    try clear c6
    try clear c10
    try clear c14
    obtain ⟨kq, x156_9, rfl, HA, HJ9, HB⟩ := hcut
    cases kq with
    | zero => exact absurd HA.out (by simp [thrumlaw21_NetDoes.x0])
    | succ kj9 =>
      have H := HA.out
      clear HA
      simp only [thrumlaw21_NetDoes.x0] at H
      by_cases c21 : x156_9 = true
      · subst c21
        have H1 : (some false) = some r := by first | (rw [if_pos rfl] at H; exact H) | (rw [if_pos True.intro] at H; exact H)
        clear H
        have H := H1
        clear H1
        obtain rfl := Option.some.inj H
        go_wp2
        go_ret
        exact ⟨by first | rfl | (simp [errW_none, errW_some] <;> rfl) | (simp [*, errW_none, errW_some] <;> rfl), below_step HBE.out (by repeat (first | (with_reducible first | exact HB.out | apply below_alloc | apply pw_below_drewN | apply below_drew1) | exact HB.out))⟩
      · replace c21 := Bool.eq_false_iff.mpr c21
        subst c21
        have H1 : ((net_Spoil.f kj9 l0 a3 a5).bind fun bt365 => ((thrumref21_Spoil.f kj9 l0 a3 a5).bind fun bt369 => ((thrumref21_Same.f kj9 bt365.1 bt369.1).bind fun t373 => (if t373 = true then (thrumlaw21_NetDoes.x1 kj9 l0 l1 a2 a4 l6 true bt365.1 (bt365.2 != bt369.2)) else (thrumlaw21_NetDoes.x1 kj9 l0 l1 a2 a4 l6 true bt365.1 true))))) = some r := by rw [if_neg (show ¬ (false = true) by decide)] at H; exact H
        clear H
        have H := H1
        clear H1
        replace H := Option.bind_eq_some_iff.mp H
        obtain ⟨⟨t365, t366⟩, A220, H⟩ := H
        replace H : ((thrumref21_Spoil.f kj9 l0 a3 a5).bind fun bt369 => ((thrumref21_Same.f kj9 t365 bt369.1).bind fun t373 => (if t373 = true then (thrumlaw21_NetDoes.x1 kj9 l0 l1 a2 a4 l6 true t365 (t366 != bt369.2)) else (thrumlaw21_NetDoes.x1 kj9 l0 l1 a2 a4 l6 true t365 true)))) = some r := H
        have A22 := Aside0.mk A220
        clear A220
        replace H := Option.bind_eq_some_iff.mp H
        obtain ⟨⟨t369, t370⟩, A230, H⟩ := H
        replace H : ((thrumref21_Same.f kj9 t365 t369).bind fun t373 => (if t373 = true then (thrumlaw21_NetDoes.x1 kj9 l0 l1 a2 a4 l6 true t365 (t366 != t370)) else (thrumlaw21_NetDoes.x1 kj9 l0 l1 a2 a4 l6 true t365 true))) = some r := H
        have A23 := Aside0.mk A230
        clear A230
        have HC24 := Aside0.mk H
        clear H
        go_upto_region 29 with (first | ((with_reducible refine gate_callee (f := 40) rfl ?_); refine goesL_ (some 161) rfl rfl Try.func40 (by kernel_rfl) rfl #[.slice A0 l0.length c0, .int .i64 a3, .int .i64 a5] rfl (by (try simp only [List.map_toArray, List.map_cons, List.map_nil]); first | done | rfl | (simp only [List.length_drop, List.length_take]; rfl)) ?_; (with_reducible refine (net_Spoil.calls kj9 _ _ l0 a3 a5 t365 t366 _ ?side1 ?side2 A22.out).mono ?_); (case side1 => repeat (first | exact (Kd.C_below HR0.out HB.out) | (with_reducible refine Kd.C_alloc ?_ _) | (with_reducible refine Kd.C_drewN ?_ _) | (with_reducible refine Kd.C_drew ?_))); (case side2 => exact HC0.out); rintro e w25 ⟨v367, rfl, ho0, hb⟩; refine ⟨_, rfl, ?_⟩; have HU := Aside0.mk (Kd.N_lower (Kd.N_mono (ok' := fun k_ => wX.heap.size ≤ k_) (Kd.S_N (Kd.S_bound (k40u_S ho0))) (fun k_ hk_ => Nat.le_trans (below_size (by repeat (first | (with_reducible first | exact HB.out | apply below_alloc | apply pw_below_drewN | apply below_drew1) | exact HB.out))) hk_.2.1)) (below_size (by repeat (first | (with_reducible first | exact HB.out | apply below_alloc | apply pw_below_drewN | apply below_drew1) | exact HB.out)))); have n0_ := Aside0.mk (Kd.N_lower (Kd.N_mono (ok' := fun k_ => True) (Kd.S_N (Kd.S_bound ho0)) (fun k_ hk_ => trivial)) (below_size (by repeat (first | (with_reducible first | exact HB.out | apply below_alloc | apply pw_below_drewN | apply below_drew1) | exact HB.out)))); have n1_ := Aside0.mk (below_step (by repeat (first | (with_reducible first | exact HB.out | apply below_alloc | apply pw_below_drewN | apply below_drew1) | exact HB.out)) hb); clear HB; have HO368 := n0_; have HB := n1_; clear n0_ n1_; (try clear hb); (try clear hb2); (try clear hk); (try clear hi); (try clear ho0)) | ((with_reducible refine gate_callee (f := 49) rfl ?_); refine goesL_ (some 168) rfl rfl Try.func49 (by kernel_rfl) rfl #[.slice A0 l0.length c0, .int .i64 a3, .int .i64 a5] rfl (by (try simp only [List.map_toArray, List.map_cons, List.map_nil]); first | done | rfl | (simp only [List.length_drop, List.length_take]; rfl)) ?_; (with_reducible refine (thrumref21_Spoil.calls kj9 _ _ l0 a3 a5 t369 t370 _ ?side1 ?side2 A23.out).mono ?_); (case side1 => repeat (first | exact (Kd.C_below HR0.out HB.out) | (with_reducible refine Kd.C_alloc ?_ _) | (with_reducible refine Kd.C_drewN ?_ _) | (with_reducible refine Kd.C_drew ?_))); (case side2 => exact HC0.out); rintro e w26 ⟨v371, rfl, ho0, hb⟩; refine ⟨_, rfl, ?_⟩; have HU1_ := Aside0.mk (Kd.N_below (by (with_reducible repeat (first | apply Kd.N_alloc | apply Kd.N_drewN | apply Kd.N_drew)); exact HU.out) hb); clear HU; have HU := HU1_; clear HU1_; have n0_ := Aside0.mk (Kd.N_elder' (by (with_reducible repeat (first | apply Kd.N_alloc | apply Kd.N_drewN | apply Kd.N_drew)); exact HO368.out) (by first | exact Kd.N_base ho0 | exact Kd.S_base ho0) hb); have n1_ := Aside0.mk (Kd.N_lower (Kd.N_mono (ok' := fun k_ => some k_ ≠ (v367 : Value).ownBlock) (Kd.S_N (Kd.S_bound ho0)) (fun k_ hk_ => (Kd.fresh' (Kd.N_lt (by (with_reducible repeat (first | apply Kd.N_alloc | apply Kd.N_drewN | apply Kd.N_drew)); exact HO368.out)) k_ hk_.2.1))) (below_size (by repeat (first | (with_reducible first | exact HB.out | apply below_alloc | apply pw_below_drewN | apply below_drew1) | exact HB.out)))); have n2_ := Aside0.mk (below_step (by repeat (first | (with_reducible first | exact HB.out | apply below_alloc | apply pw_below_drewN | apply below_drew1) | exact HB.out)) hb); clear HO368; clear HB; have HO368 := n0_; have HO372 := n1_; have HB := n2_; clear n0_ n1_ n2_; (try clear hb); (try clear hb2); (try clear hk); (try clear hi); (try clear ho0)))
        (try simp only [Act.put, List.setIfInBounds_toArray, List.set_cons_zero, List.set_cons_succ])
        go_cut [179] (fun v179 wc => ∃ (kq : Nat) (x179_23 : Bool), v179 = .bool x179_23 ∧ Aside0 (thrumlaw21_NetDoes.x1 kq l0 l1 a2 a4 l6 true t365 x179_23 = some r) ∧ Aside0 (kq ≤ kj9) ∧ Aside0 (Kd.N k40u 40 wc wX.heap.size (fun k_ => wX.heap.size ≤ k_) v367 t365) ∧ Aside0 (Below wX.heap.size wX wc))
        case first =>
          have H := HC24.out
          clear HC24
          replace H := Option.bind_eq_some_iff.mp H
          obtain ⟨t373, A270, H⟩ := H
          replace H : (if t373 = true then (thrumlaw21_NetDoes.x1 kj9 l0 l1 a2 a4 l6 true t365 (t366 != t370)) else (thrumlaw21_NetDoes.x1 kj9 l0 l1 a2 a4 l6 true t365 true)) = some r := H
          have A27 := Aside0.mk A270
          clear A270
          by_cases c28 : t373 = true
          · subst c28
            have H1 : (thrumlaw21_NetDoes.x1 kj9 l0 l1 a2 a4 l6 true t365 (t366 != t370)) = some r := by first | (rw [if_pos rfl] at H; exact H) | (rw [if_pos True.intro] at H; exact H)
            clear H
            have H := H1
            clear H1
            have H' := Aside0.mk H
            clear H
            obtain ⟨Ao29, co29, eo29⟩ := Kd.N_slice HO368.out
            subst eo29
            obtain ⟨Ao30, co30, eo30⟩ := Kd.N_slice HO372.out
            subst eo30
            go_wp2_with (first | ((with_reducible refine gate_callee (f := 23) rfl ?_); refine goesL_ (some 173) rfl rfl Try.func23 (by kernel_rfl) rfl #[.slice Ao29 t365.length co29, .slice Ao30 t369.length co30] rfl (by (try simp only [List.map_toArray, List.map_cons, List.map_nil]); first | done | rfl | (simp only [List.length_drop, List.length_take]; rfl)) ?_; (with_reducible refine (thrumref21_Same.calls kj9 _ _ t365 _ _ t369 true _ ?side1 ?side2 ?side3 ?side4 A27.out).mono ?_); (case side1 => repeat (first | exact (Kd.N_reads' HO368.out).2.2 | (with_reducible refine Kd.C_alloc ?_ _) | (with_reducible refine Kd.C_drewN ?_ _) | (with_reducible refine Kd.C_drew ?_))); (case side2 => exact (Kd.N_reads' HO368.out).2.1); (case side3 => repeat (first | exact (Kd.N_reads' HO372.out).2.2 | (with_reducible refine Kd.C_alloc ?_ _) | (with_reducible refine Kd.C_drewN ?_ _) | (with_reducible refine Kd.C_drew ?_))); (case side4 => exact (Kd.N_reads' HO372.out).2.1); rintro e w31 ⟨rfl, hb⟩; refine ⟨_, rfl, ?_⟩; have HU1_ := Aside0.mk (Kd.N_below (by (with_reducible repeat (first | apply Kd.N_alloc | apply Kd.N_drewN | apply Kd.N_drew)); exact HU.out) hb); clear HU; have HU := HU1_; clear HU1_; have n0_ := Aside0.mk (Kd.N_below (by (with_reducible repeat (first | apply Kd.N_alloc | apply Kd.N_drewN | apply Kd.N_drew)); exact HO368.out) hb); have n1_ := Aside0.mk (Kd.N_below (by (with_reducible repeat (first | apply Kd.N_alloc | apply Kd.N_drewN | apply Kd.N_drew)); exact HO372.out) hb); have n2_ := Aside0.mk (below_step (by repeat (first | (with_reducible first | exact HB.out | apply below_alloc | apply pw_below_drewN | apply below_drew1) | exact HB.out)) hb); clear HO368; clear HO372; clear HB; have HO368 := n0_; have HO372 := n1_; have HB := n2_; clear n0_ n1_ n2_; (try clear hb); (try clear hb2); (try clear hk); (try clear hi)))
            go_meet
            case rel => exact ⟨_, ((t366 != t370)), (by first | rfl | (simp; done) | (simp [*]; done)), H', ⟨by have := HJ9.out; first | omega | exact Nat.le_refl _⟩, ⟨by (with_reducible repeat (first | apply Kd.N_alloc | apply Kd.N_drewN | apply Kd.N_drew)); exact HU.out⟩, ⟨by repeat (first | (with_reducible first | exact HB.out | apply below_alloc | apply pw_below_drewN | apply below_drew1) | exact HB.out)⟩⟩
          · replace c28 := Bool.eq_false_iff.mpr c28
            subst c28
            have H1 : (thrumlaw21_NetDoes.x1 kj9 l0 l1 a2 a4 l6 true t365 true) = some r := by rw [if_neg (show ¬ (false = true) by decide)] at H; exact H
            clear H
            have H := H1
            clear H1
            have H' := Aside0.mk H
            clear H
            obtain ⟨Ao32, co32, eo32⟩ := Kd.N_slice HO368.out
            subst eo32
            obtain ⟨Ao33, co33, eo33⟩ := Kd.N_slice HO372.out
            subst eo33
            go_wp2_with (first | ((with_reducible refine gate_callee (f := 23) rfl ?_); refine goesL_ (some 173) rfl rfl Try.func23 (by kernel_rfl) rfl #[.slice Ao32 t365.length co32, .slice Ao33 t369.length co33] rfl (by (try simp only [List.map_toArray, List.map_cons, List.map_nil]); first | done | rfl | (simp only [List.length_drop, List.length_take]; rfl)) ?_; (with_reducible refine (thrumref21_Same.calls kj9 _ _ t365 _ _ t369 false _ ?side1 ?side2 ?side3 ?side4 A27.out).mono ?_); (case side1 => repeat (first | exact (Kd.N_reads' HO368.out).2.2 | (with_reducible refine Kd.C_alloc ?_ _) | (with_reducible refine Kd.C_drewN ?_ _) | (with_reducible refine Kd.C_drew ?_))); (case side2 => exact (Kd.N_reads' HO368.out).2.1); (case side3 => repeat (first | exact (Kd.N_reads' HO372.out).2.2 | (with_reducible refine Kd.C_alloc ?_ _) | (with_reducible refine Kd.C_drewN ?_ _) | (with_reducible refine Kd.C_drew ?_))); (case side4 => exact (Kd.N_reads' HO372.out).2.1); rintro e w34 ⟨rfl, hb⟩; refine ⟨_, rfl, ?_⟩; have HU1_ := Aside0.mk (Kd.N_below (by (with_reducible repeat (first | apply Kd.N_alloc | apply Kd.N_drewN | apply Kd.N_drew)); exact HU.out) hb); clear HU; have HU := HU1_; clear HU1_; have n0_ := Aside0.mk (Kd.N_below (by (with_reducible repeat (first | apply Kd.N_alloc | apply Kd.N_drewN | apply Kd.N_drew)); exact HO368.out) hb); have n1_ := Aside0.mk (Kd.N_below (by (with_reducible repeat (first | apply Kd.N_alloc | apply Kd.N_drewN | apply Kd.N_drew)); exact HO372.out) hb); have n2_ := Aside0.mk (below_step (by repeat (first | (with_reducible first | exact HB.out | apply below_alloc | apply pw_below_drewN | apply below_drew1) | exact HB.out)) hb); clear HO368; clear HO372; clear HB; have HO368 := n0_; have HO372 := n1_; have HB := n2_; clear n0_ n1_ n2_; (try clear hb); (try clear hb2); (try clear hk); (try clear hi)))
            go_meet
            case rel => exact ⟨_, (true), (by first | rfl | (simp; done) | (simp [*]; done)), H', ⟨by have := HJ9.out; first | omega | exact Nat.le_refl _⟩, ⟨by (with_reducible repeat (first | apply Kd.N_alloc | apply Kd.N_drewN | apply Kd.N_drew)); exact HU.out⟩, ⟨by repeat (first | (with_reducible first | exact HB.out | apply below_alloc | apply pw_below_drewN | apply below_drew1) | exact HB.out)⟩⟩
        case rest =>
          clear HC24
          try clear c1
          try clear c2
          try clear p2
          try clear c3
          try clear c4
          try clear c6
          try clear c10
          try clear c14
          try clear c21
          try clear c23
          try clear c28
          try clear p2
          obtain ⟨kq, x179_23, rfl, HA, HJ23, HO_20, HB⟩ := hcut
          cases kq with
          | zero => exact absurd HA.out (by simp [thrumlaw21_NetDoes.x1])
          | succ kj23 =>
            have H := HA.out
            clear HA
            simp only [thrumlaw21_NetDoes.x1] at H
            by_cases c35 : x179_23 = true
            · subst c35
              have H1 : (some false) = some r := by first | (rw [if_pos rfl] at H; exact H) | (rw [if_pos True.intro] at H; exact H)
              clear H
              have H := H1
              clear H1
              obtain rfl := Option.some.inj H
              go_wp2
              go_ret
              exact ⟨by first | rfl | (simp [errW_none, errW_some] <;> rfl) | (simp [*, errW_none, errW_some] <;> rfl), below_step HBE.out (by repeat (first | (with_reducible first | exact HB.out | apply below_alloc | apply pw_below_drewN | apply below_drew1) | exact HB.out))⟩
            · replace c35 := Bool.eq_false_iff.mpr c35
              subst c35
              replace H : (if t365.length < 2199023255552 then (thrumlaw21_NetDoes.e kj23 l0 l1 a2 0 a4 0 l6) else none) = some r := by rw [if_neg (show ¬ (false = true) by decide)] at H; exact H
              have HLc : Aside0 (t365.length < 2199023255552) := by
                by_cases hlc : t365.length < 2199023255552
                · exact ⟨hlc⟩
                · rw [if_neg hlc] at H; cases H
              rw [if_pos HLc.out] at H
              have HE := Aside0.mk H
              clear H
              obtain ⟨Aoc, coc, eoc⟩ := Kd.N_slice HO_20.out
              subst eoc
              have hsz := below_size (below_step HD.out.bs HBX.out)
              have HUc := Aside0.mk (Kd.N_lower (Kd.N_mono (ok' := fun k_ => wSa.heap.size ≤ k_) HO_20.out (fun k_ hk_ => Nat.le_trans hsz hk_)) hsz)
              clear hsz HO_20
              go_upto_region 999 with (first | ((with_reducible show Code.wp _ (Code.seq _ _) _ _ _); exact thrumlaw21_NetDoes.tailD kj23 _ _ _ _ _ _ _ _ _ _ _ _ _ _ _ _ r HUc.out HLc.out HD.out (below_step HBX.out HB.out) HLA.out (by exact HE.out) _ (by kernel_rfl)))
end Go.Proofs.Ytlppmamhbpcfcaa.MNet
