/- The law NetDoes, walked: what the Go code of this law comes to, as a plain Lean function; condition: rows as Go holds them. Part D. -/
import Derived.Test.YtlppmamhbpcfcaaNetMut
import Derived.Test.YtlppmamhbpcfcaaPNB
import Derived.Test.YtlppmamhbpcfcaaPND
import Derived.Test.YtlppmamhbpcfcaaPNR
import Derived.Test.YtlppmamhbpcfcaaPNX
namespace Go.Proofs.Ytlppmamhbpcfcaa.MNet
open Go.RowKit Go.Proofs.YtlppmamhbpcfcaaW.PrintWords Go.Proofs.YtlppmamhbpcfcaaW.PrintLast Go.Proofs.YtlppmamhbpcfcaaW.PrintMore
attribute [local go_sem] max2_int min2_int max_two min_two max_three min_three max_four min_four   -- for this text's walks alone
set_option linter.unusedVariables false
set_option linter.unusedSimpArgs false

def thrumlaw21_NetDoes.e (k : Nat) (l0 : List (S40)) (l1 : List (S40)) (a2 : Int) (a3 : Int) (a4 : Int) (a5 : Int) (l6 : List (S40)) : Option (Bool) := (thrumref21_Same.f k l0 l6).bind fun t356 => (if t356 = true then ((net_Check.f k a2 l0).bind fun t357 => ((thrumref21_Check.f k a2 l0).bind fun t358 => (if t357 = t358 then ((net_For.f k l0 a4).bind fun t359 => ((thrumref21_For.f k l0 a4).bind fun t360 => (if t359 = t360 then ((net_Same.f k l0 l1).bind fun t361 => ((thrumref21_Same.f k l0 l1).bind fun t362 => (some (t361 == t362)))) else (some false)))) else (some false)))) else (some false))
mutual
def thrumlaw21_NetDoes.x0 : Nat → List (S40) → List (S40) → Int → Int → Int → Int → List (S40) → Bool → Bool → Option (Bool)
  | 0, _, _, _, _, _, _, _, _, _ => none
  | k + 1, x0, x1, x2, x3, x4, x5, x6, x13, x156 => if x156 = true then (some false) else ((net_Spoil.f k x0 x3 x5).bind fun bt365 => ((thrumref21_Spoil.f k x0 x3 x5).bind fun bt369 => ((thrumref21_Same.f k bt365.1 bt369.1).bind fun t373 => (if t373 = true then (thrumlaw21_NetDoes.x1 k x0 x1 x2 x4 x6 x13 bt365.1 (bt365.2 != bt369.2)) else (thrumlaw21_NetDoes.x1 k x0 x1 x2 x4 x6 x13 bt365.1 true)))))
def thrumlaw21_NetDoes.x1 : Nat → List (S40) → List (S40) → Int → Int → List (S40) → Bool → List (S40) → Bool → Option (Bool)
  | 0, _, _, _, _, _, _, _, _ => none
  | k + 1, x0, x1, x2, x4, x6, x13, x20, x179 => if x179 = true then (some false) else (if x20.length < 2199023255552 then (thrumlaw21_NetDoes.e k x0 x1 x2 0 x4 0 x6) else none)
end
def thrumlaw21_NetDoes.xx (k : Nat) (l0 : List (S40)) (l1 : List (S40)) (a2 : Int) (a3 : Int) (a4 : Int) (a5 : Int) (l6 : List (S40)) : Option (Bool) := (net_Swap.f k l0 a3 a4).bind fun bt356 => ((thrumref21_Swap.f k l0 a3 a4).bind fun bt360 => ((thrumref21_Same.f k bt356.1 bt360.1).bind fun t364 => (if t364 = true then (thrumlaw21_NetDoes.x0 k l0 l1 a2 a3 a4 a5 l6 true (bt356.2 != bt360.2)) else (thrumlaw21_NetDoes.x0 k l0 l1 a2 a3 a4 a5 l6 true true))))
mutual
def thrumlaw21_NetDoes.c0 : Nat → List (S40) → List (S40) → Int → Int → Int → Int → List (S40) → Bool → Bool → Option (Bool)
  | 0, _, _, _, _, _, _, _, _, _ => none
  | k + 1, x0, x1, x2, x3, x4, x5, x6, x13, x112 => if x112 = true then (some false) else ((net_Twice.f k x0 x3).bind fun bt365 => ((thrumref21_Twice.f k x0 x3).bind fun bt369 => ((thrumref21_Same.f k bt365.1 bt369.1).bind fun t373 => (if t373 = true then (thrumlaw21_NetDoes.c1 k x0 x1 x2 x3 x4 x5 x6 x13 (bt365.2 != bt369.2)) else (thrumlaw21_NetDoes.c1 k x0 x1 x2 x3 x4 x5 x6 x13 true)))))
def thrumlaw21_NetDoes.c1 : Nat → List (S40) → List (S40) → Int → Int → Int → Int → List (S40) → Bool → Bool → Option (Bool)
  | 0, _, _, _, _, _, _, _, _, _ => none
  | k + 1, x0, x1, x2, x3, x4, x5, x6, x13, x133 => if x133 = true then (some false) else (thrumlaw21_NetDoes.xx k x0 x1 x2 x3 x4 x5 x6)
end
def thrumlaw21_NetDoes.cc (k : Nat) (l0 : List (S40)) (l1 : List (S40)) (a2 : Int) (a3 : Int) (a4 : Int) (a5 : Int) (l6 : List (S40)) : Option (Bool) := (net_Drop.f k l0 a3).bind fun bt356 => ((thrumref21_Drop.f k l0 a3).bind fun bt360 => ((thrumref21_Same.f k bt356.1 bt360.1).bind fun t364 => (if t364 = true then (thrumlaw21_NetDoes.c0 k l0 l1 a2 a3 a4 a5 l6 true (bt356.2 != bt360.2)) else (thrumlaw21_NetDoes.c0 k l0 l1 a2 a3 a4 a5 l6 true true))))
mutual
def thrumlaw21_NetDoes.j0 : Nat → List (S40) → List (S40) → Int → Int → Int → Int → List (S40) → Bool → Bool → Option (Bool)
  | 0, _, _, _, _, _, _, _, _, _ => none
  | k + 1, x0, x1, x2, x3, x4, x5, x6, x13, x62 => if x62 = true then (some false) else ((net_Give.f k x0 x3).bind fun bt361 => ((thrumref21_Give.f k x0 x3).bind fun bt370 => ((thrumref21_One.f bt361.1 bt361.2.1 bt370.1 bt370.2.1).bind fun t379 => (if t379 = true then ((thrumref21_Same.f k bt361.2.2.1 bt370.2.2.1).bind fun t380 => (if t380 = true then (thrumlaw21_NetDoes.j1 k x0 x1 x2 x3 x4 x5 x6 x13 (bt361.2.2.2 != bt370.2.2.2)) else (thrumlaw21_NetDoes.j1 k x0 x1 x2 x3 x4 x5 x6 x13 true))) else (thrumlaw21_NetDoes.j1 k x0 x1 x2 x3 x4 x5 x6 x13 true)))))
def thrumlaw21_NetDoes.j1 : Nat → List (S40) → List (S40) → Int → Int → Int → Int → List (S40) → Bool → Bool → Option (Bool)
  | 0, _, _, _, _, _, _, _, _, _ => none
  | k + 1, x0, x1, x2, x3, x4, x5, x6, x13, x91 => if x91 = true then (some false) else (thrumlaw21_NetDoes.cc k x0 x1 x2 x3 x4 x5 x6)
end
def thrumlaw21_NetDoes.g (k : Nat) (l0 : List (S40)) (l1 : List (S40)) (a2 : Int) (a3 : Int) (a4 : Int) (a5 : Int) (l6 : List (S40)) (l7 : List (S40)) (a8 : Int) : Option (Bool) := if l7.length < 2199023255552 then ((thrumref21_Send.f k l0 l1).bind fun bt356 => ((thrumref21_Same.f k l7 bt356.1).bind fun t360 => (if t360 = true then (thrumlaw21_NetDoes.j0 k l0 l1 a2 a3 a4 a5 l6 true (a8 != bt356.2)) else (thrumlaw21_NetDoes.j0 k l0 l1 a2 a3 a4 a5 l6 true true)))) else none
def thrumlaw21_NetDoes.i0 : Nat → List (S40) → List (S40) → Int → Int → Int → Int → Bool → Bool → Option (Bool)
  | 0, _, _, _, _, _, _, _, _ => none
  | k + 1, x0, x1, x2, x3, x4, x5, x13, x38 => if x38 = true then (some x13) else ((thrumref21_Copy.f k x0).bind fun t359 => ((net_Send.f k x0 x1).bind fun bt362 => (thrumlaw21_NetDoes.g k x0 x1 x2 x3 x4 x5 t359 bt362.1 bt362.2)))
def thrumlaw21_NetDoes.f (k : Nat) (l0 : List (S40)) (l1 : List (S40)) (a2 : Int) (a3 : Int) (a4 : Int) (a5 : Int) : Option (Bool) := (thrumlaw21_live.f k).bind fun t356 => (if t356 = true then ((thrumref21_Few.f k l0).bind fun t357 => (if t357 = true then ((thrumref21_Few.f k l1).bind fun t358 => (thrumlaw21_NetDoes.i0 k l0 l1 a2 a3 a4 a5 t356 (!t358))) else (thrumlaw21_NetDoes.i0 k l0 l1 a2 a3 a4 a5 t356 true))) else (some false))
def thrumlaw21_NetDoes.headR : Code → Nat
  | .region n _ _ => n
  | .seq a _ => thrumlaw21_NetDoes.headR a
  | .block _ c => thrumlaw21_NetDoes.headR c
  | .loop c => thrumlaw21_NetDoes.headR c
  | _ => 1000
/-- What follows, from the statement that begins with region n. -/
def thrumlaw21_NetDoes.from_ (n : Nat) : Code → Code
  | .seq a b => if thrumlaw21_NetDoes.headR a = n then .seq a b else thrumlaw21_NetDoes.from_ n b
  | c => c
/-- What is known of the rows that came and of the two that were made, where the law's walk is cut. -/
structure thrumlaw21_NetDoes.Base (w wSa wSb : World) (A0 : Option Addr) (c0 : Nat) (l0 : List (S40)) (A1 : Option Addr) (c1 : Nat) (l1 : List (S40)) (A6 : Option Addr) (c6 : Nat) (l6 : List (S40)) (A7 : Option Addr) (c7 : Nat) (l7 : List (S40)) : Prop where
  re0 : Kd.C k40 wSa A0 l0.length l0
  re1 : Kd.C k40 wSa A1 l1.length l1
  re6 : Kd.C k40 wSa A6 l6.length l6
  hc0 : l0.length ≤ c0
  hc1 : l1.length ≤ c1
  hc6 : l6.length ≤ c6
  b0 : Below w.heap.size w wSa
  bs : Below wSa.heap.size wSa wSb
  ou : Kd.N k40u 40 wSb wSa.heap.size (fun k_ => wSa.heap.size ≤ k_) (.slice A7 l7.length c7) l7
set_option maxHeartbeats 8000000 in
set_option maxRecDepth 1000000 in
theorem thrumlaw21_NetDoes.tailD (k : Nat) (A0 : Option Addr) (c0 : Nat) (l0 : List (S40)) (A1 : Option Addr) (c1 : Nat) (l1 : List (S40)) (a2 : Int) (a3 : Int) (a4 : Int) (a5 : Int) (A6 : Option Addr) (c6 : Nat) (l6 : List (S40)) (A7 : Option Addr) (c7 : Nat) (l7 : List (S40)) (r : Bool) {w wSa wSb wX : World} {Aoc : Option Addr} {coc : Nat} {tc : List (S40)} (huc : Kd.N k40u 40 wX wSa.heap.size (fun k_ => wSa.heap.size ≤ k_) (.slice Aoc tc.length coc) tc) (hlc : tc.length < 2199023255552) (hD : thrumlaw21_NetDoes.Base w wSa wSb A0 c0 l0 A1 c1 l1 A6 c6 l6 A7 c7 l7) (hB : Below wSb.heap.size wSb wX) (hla : l7.length < 2199023255552) (h : thrumlaw21_NetDoes.e k l0 l1 a2 a3 a4 a5 l6 = some r) {u6 u7 u8 u9 u10 u11 u12 u16 u17 u18 u19 u21 u22 u23 u24 u25 u26 u27 u28 u29 u30 u31 u32 u33 u34 u35 u36 u37 u38 u39 u40 u41 u42 u43 u44 u45 u46 u47 u48 u49 u50 u51 u52 u53 u54 u55 u56 u57 u58 u59 u60 u61 u62 u63 u64 u65 u66 u67 u68 u69 u70 u71 u72 u73 u74 u75 u76 u77 u78 u79 u80 u81 u82 u83 u84 u85 u86 u87 u88 u89 u90 u91 u92 u93 u94 u95 u96 u97 u98 u99 u100 u101 u102 u103 u104 u105 u106 u107 u108 u109 u110 u111 u112 u113 u114 u115 u116 u117 u118 u119 u120 u121 u122 u123 u124 u125 u126 u127 u128 u129 u130 u131 u132 u133 u134 u135 u136 u137 u138 u139 u140 u141 u142 u143 u144 u145 u146 u147 u148 u149 u150 u151 u152 u153 u154 u155 u156 u157 u158 u159 u160 u161 u162 u163 u164 u165 u166 u167 u168 u169 u170 u171 u172 u173 u174 u175 u176 u177 u178 u179 u180 u181 u182 u183 u184 u185 u186 u187 u188 u189 u190 u191 u192 u193 u194 u195 u196 u197 u198 u199 u200 u201 u202 u203 u204 u205 u206 u207 u208 u209 u210 u211 u212 u213 u214 u215 u216 u217 u218 u219 u220 u221 u222 u223 u224 u225 u226 u227 u228 u229 u230 u231 u232 u233 u234 u235 u236 : Value} (C : Code) (hC : C = thrumlaw21_NetDoes.from_ 31 (Try.f10.body.getD .skip)) :
    Code.wp Try.prog C (bodyPost Try.prog Try.f10 (fun e w' => e = .returned (.bool r) ∧ Below w.heap.size w w')) ⟨#[.slice A0 l0.length c0, .slice A1 l1.length c1, .int .i64 a2, .int .i64 a3, .int .i64 a4, .int .i64 a5, u6, u7, u8, u9, u10, u11, u12, .bool true, .slice A6 l6.length c6, .slice A7 l7.length c7, u16, u17, u18, u19, .slice Aoc tc.length coc, u21, u22, u23, u24, u25, u26, u27, u28, u29, u30, u31, u32, u33, u34, u35, u36, u37, u38, u39, u40, u41, u42, u43, u44, u45, u46, u47, u48, u49, u50, u51, u52, u53, u54, u55, u56, u57, u58, u59, u60, u61, u62, u63, u64, u65, u66, u67, u68, u69, u70, u71, u72, u73, u74, u75, u76, u77, u78, u79, u80, u81, u82, u83, u84, u85, u86, u87, u88, u89, u90, u91, u92, u93, u94, u95, u96, u97, u98, u99, u100, u101, u102, u103, u104, u105, u106, u107, u108, u109, u110, u111, u112, u113, u114, u115, u116, u117, u118, u119, u120, u121, u122, u123, u124, u125, u126, u127, u128, u129, u130, u131, u132, u133, u134, u135, u136, u137, u138, u139, u140, u141, u142, u143, u144, u145, u146, u147, u148, u149, u150, u151, u152, u153, u154, u155, u156, u157, u158, u159, u160, u161, u162, u163, u164, u165, u166, u167, u168, u169, u170, u171, u172, u173, u174, u175, u176, u177, u178, u179, u180, u181, u182, u183, u184, u185, u186, u187, u188, u189, u190, u191, u192, u193, u194, u195, u196, u197, u198, u199, u200, u201, u202, u203, u204, u205, u206, u207, u208, u209, u210, u211, u212, u213, u214, u215, u216, u217, u218, u219, u220, u221, u222, u223, u224, u225, u226, u227, u228, u229, u230, u231, u232, u233, u234, u235, u236], []⟩ wX := by
  subst hC
  conv => arg 2; whnf
  have HLA := Aside0.mk hla
  have HLc := Aside0.mk hlc
  have HE : Aside0 (thrumlaw21_NetDoes.e k l0 l1 a2 a3 a4 a5 l6 = some r) := ⟨h⟩
  have HUa : Aside0 (Kd.N k40u 40 wX wSa.heap.size (fun k_ => wSa.heap.size ≤ k_) (.slice A7 l7.length c7) l7) := ⟨Kd.N_below hD.ou hB⟩
  have HUc := Aside0.mk huc
  have HBw : Aside0 (Below wSa.heap.size wSa wX) := ⟨below_step hD.bs hB⟩
  have HD := Aside0.mk hD
  clear hla hlc h huc hD hB
  go_wp2_with (first | ((with_reducible refine gate_builtin (b := .append) (xs := #[.const (.slice none 0 0), .tmp 180]) rfl ?_); at_builtin; refine Kd.N_append_rows k40u (w0 := wSa) wSa.heap.size rfl (.const (.slice none 0 0)) (.tmp 180) 33 40 (.agg #[(.int .i64 0), (.slice none 0 0)]) 32 rfl Try.underlying33 info40 rfl (by decide) (by omega) (.slice none 0 0) ([] : List S40) l7 _ _ _ (fun k_ => wSa.heap.size ≤ k_) (fun k_ => (wSa.heap.size ≤ k_) ∧ some k_ ≠ (.slice none 0 0 : Value).ownBlock) rfl rfl ?aO ?aR (fun _ hk => hk) ?aF ?aB ?aS ?aL ?_; (case aR => exact Kd.N_F (Kd.N_apart_nil (by (with_reducible repeat (first | apply Kd.N_alloc | apply Kd.N_drewN | apply Kd.N_drew)); exact HUa.out))); (case aB => exact (by repeat (first | (with_reducible first | exact HBw.out | apply below_alloc | apply pw_below_drewN | apply below_drew1) | exact HBw.out))); (case aF => exact (fun k_ hk => Nat.le_trans (below_size (by repeat (first | (with_reducible first | exact HBw.out | apply below_alloc | apply pw_below_drewN | apply below_drew1) | exact HBw.out))) hk)); (case aO => exact Kd.N_nil _ _ _ _ _); (case aS => exact (below_size (by repeat (first | (with_reducible first | exact HBw.out | apply below_alloc | apply pw_below_drewN | apply below_drew1) | exact HBw.out)))); (case aL => have := HLA.out; simp only [List.length_nil]; omega); intro v181 w181 ho hb hg hat; have n0_ := Aside0.mk (Kd.N_after (Kd.N_apart_nil (by (with_reducible repeat (first | apply Kd.N_alloc | apply Kd.N_drewN | apply Kd.N_drew)); exact HUc.out)) hg hat); have HU181 := Aside0.mk ho; have n1_ := Aside0.mk hb; clear HUa HUc HBw; have HUc := n0_; have HBw := n1_; clear n0_ n1_ ho hb hg hat) | ((with_reducible refine gate_builtin (b := .append) (xs := #[.tmp 181, .tmp 182]) rfl ?_); at_builtin; refine Kd.N_append_rows k40u (w0 := wSa) wSa.heap.size rfl (.tmp 181) (.tmp 182) 33 40 (.agg #[(.int .i64 0), (.slice none 0 0)]) 32 rfl Try.underlying33 info40 rfl (by decide) (by omega) v181 (([] : List S40) ++ l7) tc _ _ _ (fun k_ => wSa.heap.size ≤ k_) (fun k_ => (wSa.heap.size ≤ k_) ∧ some k_ ≠ (v181 : Value).ownBlock) rfl rfl ?aO ?aR (fun _ hk => hk) ?aF ?aB ?aS ?aL ?_; (case aR => exact Kd.N_F (by (with_reducible repeat (first | apply Kd.N_alloc | apply Kd.N_drewN | apply Kd.N_drew)); exact HUc.out)); (case aB => exact (by repeat (first | (with_reducible first | exact HBw.out | apply below_alloc | apply pw_below_drewN | apply below_drew1) | exact HBw.out))); (case aF => exact (fun k_ hk => Nat.le_trans (below_size (by repeat (first | (with_reducible first | exact HBw.out | apply below_alloc | apply pw_below_drewN | apply below_drew1) | exact HBw.out))) hk)); (case aO => exact (by (with_reducible repeat (first | apply Kd.N_alloc | apply Kd.N_drewN | apply Kd.N_drew)); exact HU181.out)); (case aS => exact (below_size (by repeat (first | (with_reducible first | exact HBw.out | apply below_alloc | apply pw_below_drewN | apply below_drew1) | exact HBw.out)))); (case aL => have := HLA.out; have := HLc.out; simp only [List.nil_append]; omega); intro v183 w183 ho hb hg hat; obtain ⟨L183, hL183⟩ : ∃ n : Nat, n = ((([] : List S40) ++ l7) ++ tc).length := ⟨_, rfl⟩; obtain ⟨A183, c183, e183⟩ := Kd.N_slice ho; rw [← hL183] at e183; subst e183; have HLL : Aside0 (L183 < 9223372036854775807) := ⟨by have := HLA.out; have := HLc.out; rw [hL183]; simp only [List.nil_append, List.length_append]; omega⟩; clear hL183; have HRw := Aside0.mk (rows_of_N ho); have n1_ := Aside0.mk hb; clear HU181 HUc HBw; have HBw := n1_; clear n1_ ho hb hg hat))
  go_loopg [185] L183 (fun kq v185 w' => ∃ (x : Int), v185 = .int .i64 x ∧ Aside0 (0 ≤ x) ∧ Aside0 (x.toNat + kq = L183) ∧ Aside0 (Rows wSa.heap.size w' A183 L183) ∧ Aside0 (Below wSa.heap.size wSa w'))
  case atStart => exact ⟨0, rfl, ⟨by decide⟩, ⟨by simp⟩, ⟨HRw.out⟩, ⟨HBw.out⟩⟩
  case round =>
    clear HRw HBw
    obtain ⟨x, rfl, HX0, HXL, HRw, HBw⟩ := hrel
    cases gk with
    | zero =>
      have c1b0 : decide (x < (L183 : Int)) = false := decide_eq_false (by have := HXL.out; have := HX0.out; omega)
      go_upto_region 40 with (fail)
      have HBF := Aside0.mk (below_step HD.out.b0 HBw.out)
      have HR0 := Aside0.mk (Kd.C_below HD.out.re0 HBw.out)
      have HC0 := Aside0.mk HD.out.hc0
      have HR1 := Aside0.mk (Kd.C_below HD.out.re1 HBw.out)
      have HC1 := Aside0.mk HD.out.hc1
      have HR6 := Aside0.mk (Kd.C_below HD.out.re6 HBw.out)
      have HC6 := Aside0.mk HD.out.hc6
      clear c1b0 HXL HX0 HRw HBw HD HLL
      have HB := Aside0.mk (Below.refl wr.heap.size wr)
      have H : ((thrumref21_Same.f k l0 l6).bind fun t356 => (if t356 = true then ((net_Check.f k a2 l0).bind fun t357 => ((thrumref21_Check.f k a2 l0).bind fun t358 => (if t357 = t358 then ((net_For.f k l0 a4).bind fun t359 => ((thrumref21_For.f k l0 a4).bind fun t360 => (if t359 = t360 then ((net_Same.f k l0 l1).bind fun t361 => ((thrumref21_Same.f k l0 l1).bind fun t362 => (some (t361 == t362)))) else (some false)))) else (some false)))) else (some false))) = some r := HE.out
      clear HE
      replace H := Option.bind_eq_some_iff.mp H
      obtain ⟨t356, A80, H⟩ := H
      replace H : (if t356 = true then ((net_Check.f k a2 l0).bind fun t357 => ((thrumref21_Check.f k a2 l0).bind fun t358 => (if t357 = t358 then ((net_For.f k l0 a4).bind fun t359 => ((thrumref21_For.f k l0 a4).bind fun t360 => (if t359 = t360 then ((net_Same.f k l0 l1).bind fun t361 => ((thrumref21_Same.f k l0 l1).bind fun t362 => (some (t361 == t362)))) else (some false)))) else (some false)))) else (some false)) = some r := H
      have A8 := Aside0.mk A80
      clear A80
      by_cases c9 : t356 = true
      · subst c9
        have H1 : ((net_Check.f k a2 l0).bind fun t357 => ((thrumref21_Check.f k a2 l0).bind fun t358 => (if t357 = t358 then ((net_For.f k l0 a4).bind fun t359 => ((thrumref21_For.f k l0 a4).bind fun t360 => (if t359 = t360 then ((net_Same.f k l0 l1).bind fun t361 => ((thrumref21_Same.f k l0 l1).bind fun t362 => (some (t361 == t362)))) else (some false)))) else (some false)))) = some r := by first | (rw [if_pos rfl] at H; exact H) | (rw [if_pos True.intro] at H; exact H)
        clear H
        have H := H1
        clear H1
        replace H := Option.bind_eq_some_iff.mp H
        obtain ⟨t357, A100, H⟩ := H
        replace H : ((thrumref21_Check.f k a2 l0).bind fun t358 => (if t357 = t358 then ((net_For.f k l0 a4).bind fun t359 => ((thrumref21_For.f k l0 a4).bind fun t360 => (if t359 = t360 then ((net_Same.f k l0 l1).bind fun t361 => ((thrumref21_Same.f k l0 l1).bind fun t362 => (some (t361 == t362)))) else (some false)))) else (some false))) = some r := H
        have A10 := Aside0.mk A100
        clear A100
        replace H := Option.bind_eq_some_iff.mp H
        obtain ⟨t358, A110, H⟩ := H
        replace H : (if t357 = t358 then ((net_For.f k l0 a4).bind fun t359 => ((thrumref21_For.f k l0 a4).bind fun t360 => (if t359 = t360 then ((net_Same.f k l0 l1).bind fun t361 => ((thrumref21_Same.f k l0 l1).bind fun t362 => (some (t361 == t362)))) else (some false)))) else (some false)) = some r := H
        have A11 := Aside0.mk A110
        clear A110
        by_cases c12 : t357 = t358
        · rw [if_pos c12] at H
          have c12b0 : (t357 == t358) = true := beq_iff_eq.mpr c12
          have c12b1 : (t357 != t358) = false := bne_eq_false_iff_eq.mpr c12
          clear c12
          replace H := Option.bind_eq_some_iff.mp H
          obtain ⟨t359, A130, H⟩ := H
          replace H : ((thrumref21_For.f k l0 a4).bind fun t360 => (if t359 = t360 then ((net_Same.f k l0 l1).bind fun t361 => ((thrumref21_Same.f k l0 l1).bind fun t362 => (some (t361 == t362)))) else (some false))) = some r := H
          have A13 := Aside0.mk A130
          clear A130
          replace H := Option.bind_eq_some_iff.mp H
          obtain ⟨t360, A140, H⟩ := H
          replace H : (if t359 = t360 then ((net_Same.f k l0 l1).bind fun t361 => ((thrumref21_Same.f k l0 l1).bind fun t362 => (some (t361 == t362)))) else (some false)) = some r := H
          have A14 := Aside0.mk A140
          clear A140
          by_cases c15 : t359 = t360
          · rw [if_pos c15] at H
            have c15b0 : (t359 == t360) = true := beq_iff_eq.mpr c15
            have c15b1 : (t359 != t360) = false := bne_eq_false_iff_eq.mpr c15
            clear c15
            replace H := Option.bind_eq_some_iff.mp H
            obtain ⟨t361, A160, H⟩ := H
            replace H : ((thrumref21_Same.f k l0 l1).bind fun t362 => (some (t361 == t362))) = some r := H
            have A16 := Aside0.mk A160
            clear A160
            replace H := Option.bind_eq_some_iff.mp H
            obtain ⟨t362, A170, H⟩ := H
            replace H : (some (t361 == t362)) = some r := H
            have A17 := Aside0.mk A170
            clear A170
            obtain rfl := Option.some.inj H
            go_wp2_with (first | (go_at_call 23; (with_reducible refine (thrumref21_Same.calls k _ _ l0 _ _ l6 true _ ?side1 ?side2 ?side3 ?side4 A8.out).mono ?_); (case side1 => repeat (first | exact HR0.out | (with_reducible refine Kd.C_alloc ?_ _) | (with_reducible refine Kd.C_drewN ?_ _) | (with_reducible refine Kd.C_drew ?_))); (case side2 => exact HC0.out); (case side3 => repeat (first | exact HR6.out | (with_reducible refine Kd.C_alloc ?_ _) | (with_reducible refine Kd.C_drewN ?_ _) | (with_reducible refine Kd.C_drew ?_))); (case side4 => exact HC6.out); rintro e w18 ⟨rfl, hb⟩; have n0_ := Aside0.mk (below_step (by repeat (first | (with_reducible first | exact HB.out | apply below_alloc | apply pw_below_drewN | apply below_drew1) | exact HB.out)) hb); clear HB; have HB := n0_; clear n0_; (try clear hb); (try clear hb2); (try clear hk); (try clear hi)) | (go_at_call 50; (with_reducible refine (net_Check.calls k a2 _ _ l0 t357 _ ?side1 ?side2 A10.out).mono ?_); (case side1 => repeat (first | exact (Kd.C_below HR0.out HB.out) | (with_reducible refine Kd.C_alloc ?_ _) | (with_reducible refine Kd.C_drewN ?_ _) | (with_reducible refine Kd.C_drew ?_))); (case side2 => exact HC0.out); rintro e w19 ⟨rfl, hb⟩; have n0_ := Aside0.mk (below_step (by repeat (first | (with_reducible first | exact HB.out | apply below_alloc | apply pw_below_drewN | apply below_drew1) | exact HB.out)) hb); clear HB; have HB := n0_; clear n0_; (try clear hb); (try clear hb2); (try clear hk); (try clear hi)) | (go_at_call 51; (with_reducible refine (thrumref21_Check.calls k a2 _ _ l0 t358 _ ?side1 ?side2 A11.out).mono ?_); (case side1 => repeat (first | exact (Kd.C_below HR0.out HB.out) | (with_reducible refine Kd.C_alloc ?_ _) | (with_reducible refine Kd.C_drewN ?_ _) | (with_reducible refine Kd.C_drew ?_))); (case side2 => exact HC0.out); rintro e w20 ⟨rfl, hb⟩; have n0_ := Aside0.mk (below_step (by repeat (first | (with_reducible first | exact HB.out | apply below_alloc | apply pw_below_drewN | apply below_drew1) | exact HB.out)) hb); clear HB; have HB := n0_; clear n0_; (try clear hb); (try clear hb2); (try clear hk); (try clear hi)) | (go_at_call 39; (with_reducible refine (net_For.calls k _ _ l0 a4 t359 _ ?side1 ?side2 A13.out).mono ?_); (case side1 => repeat (first | exact (Kd.C_below HR0.out HB.out) | (with_reducible refine Kd.C_alloc ?_ _) | (with_reducible refine Kd.C_drewN ?_ _) | (with_reducible refine Kd.C_drew ?_))); (case side2 => exact HC0.out); rintro e w21 ⟨rfl, hb⟩; have n0_ := Aside0.mk (below_step (by repeat (first | (with_reducible first | exact HB.out | apply below_alloc | apply pw_below_drewN | apply below_drew1) | exact HB.out)) hb); clear HB; have HB := n0_; clear n0_; (try clear hb); (try clear hb2); (try clear hk); (try clear hi)) | (go_at_call 52; (with_reducible refine (thrumref21_For.calls k _ _ l0 a4 t360 _ ?side1 ?side2 A14.out).mono ?_); (case side1 => repeat (first | exact (Kd.C_below HR0.out HB.out) | (with_reducible refine Kd.C_alloc ?_ _) | (with_reducible refine Kd.C_drewN ?_ _) | (with_reducible refine Kd.C_drew ?_))); (case side2 => exact HC0.out); rintro e w22 ⟨rfl, hb⟩; have n0_ := Aside0.mk (below_step (by repeat (first | (with_reducible first | exact HB.out | apply below_alloc | apply pw_below_drewN | apply below_drew1) | exact HB.out)) hb); clear HB; have HB := n0_; clear n0_; (try clear hb); (try clear hb2); (try clear hk); (try clear hi)) | (go_at_call 53; (with_reducible refine (net_Same.calls k _ _ l0 _ _ l1 t361 _ ?side1 ?side2 ?side3 ?side4 A16.out).mono ?_); (case side1 => repeat (first | exact (Kd.C_below HR0.out HB.out) | (with_reducible refine Kd.C_alloc ?_ _) | (with_reducible refine Kd.C_drewN ?_ _) | (with_reducible refine Kd.C_drew ?_))); (case side2 => exact HC0.out); (case side3 => repeat (first | exact (Kd.C_below HR1.out HB.out) | (with_reducible refine Kd.C_alloc ?_ _) | (with_reducible refine Kd.C_drewN ?_ _) | (with_reducible refine Kd.C_drew ?_))); (case side4 => exact HC1.out); rintro e w23 ⟨rfl, hb⟩; have n0_ := Aside0.mk (below_step (by repeat (first | (with_reducible first | exact HB.out | apply below_alloc | apply pw_below_drewN | apply below_drew1) | exact HB.out)) hb); clear HB; have HB := n0_; clear n0_; (try clear hb); (try clear hb2); (try clear hk); (try clear hi)) | (go_at_call 23; (with_reducible refine (thrumref21_Same.calls k _ _ l0 _ _ l1 t362 _ ?side1 ?side2 ?side3 ?side4 A17.out).mono ?_); (case side1 => repeat (first | exact (Kd.C_below HR0.out HB.out) | (with_reducible refine Kd.C_alloc ?_ _) | (with_reducible refine Kd.C_drewN ?_ _) | (with_reducible refine Kd.C_drew ?_))); (case side2 => exact HC0.out); (case side3 => repeat (first | exact (Kd.C_below HR1.out HB.out) | (with_reducible refine Kd.C_alloc ?_ _) | (with_reducible refine Kd.C_drewN ?_ _) | (with_reducible refine Kd.C_drew ?_))); (case side4 => exact HC1.out); rintro e w24 ⟨rfl, hb⟩; have n0_ := Aside0.mk (below_step (by repeat (first | (with_reducible first | exact HB.out | apply below_alloc | apply pw_below_drewN | apply below_drew1) | exact HB.out)) hb); clear HB; have HB := n0_; clear n0_; (try clear hb); (try clear hb2); (try clear hk); (try clear hi)))
            go_ret
            exact ⟨by first | rfl | (simp [errW_none, errW_some] <;> rfl) | (simp [*, errW_none, errW_some] <;> rfl), below_step HBF.out (by repeat (first | (with_reducible first | exact HB.out | apply below_alloc | apply pw_below_drewN | apply below_drew1) | exact HB.out))⟩
          · rw [if_neg c15] at H
            have c15b0 : (t359 == t360) = false := beq_eq_false_iff_ne.mpr c15
            have c15b1 : (t359 != t360) = true := bne_iff_ne.mpr c15
            obtain rfl := Option.some.inj H
            go_wp2_with (first | (go_at_call 23; (with_reducible refine (thrumref21_Same.calls k _ _ l0 _ _ l6 true _ ?side1 ?side2 ?side3 ?side4 A8.out).mono ?_); (case side1 => repeat (first | exact HR0.out | (with_reducible refine Kd.C_alloc ?_ _) | (with_reducible refine Kd.C_drewN ?_ _) | (with_reducible refine Kd.C_drew ?_))); (case side2 => exact HC0.out); (case side3 => repeat (first | exact HR6.out | (with_reducible refine Kd.C_alloc ?_ _) | (with_reducible refine Kd.C_drewN ?_ _) | (with_reducible refine Kd.C_drew ?_))); (case side4 => exact HC6.out); rintro e w25 ⟨rfl, hb⟩; have n0_ := Aside0.mk (below_step (by repeat (first | (with_reducible first | exact HB.out | apply below_alloc | apply pw_below_drewN | apply below_drew1) | exact HB.out)) hb); clear HB; have HB := n0_; clear n0_; (try clear hb); (try clear hb2); (try clear hk); (try clear hi)) | (go_at_call 50; (with_reducible refine (net_Check.calls k a2 _ _ l0 t357 _ ?side1 ?side2 A10.out).mono ?_); (case side1 => repeat (first | exact (Kd.C_below HR0.out HB.out) | (with_reducible refine Kd.C_alloc ?_ _) | (with_reducible refine Kd.C_drewN ?_ _) | (with_reducible refine Kd.C_drew ?_))); (case side2 => exact HC0.out); rintro e w26 ⟨rfl, hb⟩; have n0_ := Aside0.mk (below_step (by repeat (first | (with_reducible first | exact HB.out | apply below_alloc | apply pw_below_drewN | apply below_drew1) | exact HB.out)) hb); clear HB; have HB := n0_; clear n0_; (try clear hb); (try clear hb2); (try clear hk); (try clear hi)) | (go_at_call 51; (with_reducible refine (thrumref21_Check.calls k a2 _ _ l0 t358 _ ?side1 ?side2 A11.out).mono ?_); (case side1 => repeat (first | exact (Kd.C_below HR0.out HB.out) | (with_reducible refine Kd.C_alloc ?_ _) | (with_reducible refine Kd.C_drewN ?_ _) | (with_reducible refine Kd.C_drew ?_))); (case side2 => exact HC0.out); rintro e w27 ⟨rfl, hb⟩; have n0_ := Aside0.mk (below_step (by repeat (first | (with_reducible first | exact HB.out | apply below_alloc | apply pw_below_drewN | apply below_drew1) | exact HB.out)) hb); clear HB; have HB := n0_; clear n0_; (try clear hb); (try clear hb2); (try clear hk); (try clear hi)) | (go_at_call 39; (with_reducible refine (net_For.calls k _ _ l0 a4 t359 _ ?side1 ?side2 A13.out).mono ?_); (case side1 => repeat (first | exact (Kd.C_below HR0.out HB.out) | (with_reducible refine Kd.C_alloc ?_ _) | (with_reducible refine Kd.C_drewN ?_ _) | (with_reducible refine Kd.C_drew ?_))); (case side2 => exact HC0.out); rintro e w28 ⟨rfl, hb⟩; have n0_ := Aside0.mk (below_step (by repeat (first | (with_reducible first | exact HB.out | apply below_alloc | apply pw_below_drewN | apply below_drew1) | exact HB.out)) hb); clear HB; have HB := n0_; clear n0_; (try clear hb); (try clear hb2); (try clear hk); (try clear hi)) | (go_at_call 52; (with_reducible refine (thrumref21_For.calls k _ _ l0 a4 t360 _ ?side1 ?side2 A14.out).mono ?_); (case side1 => repeat (first | exact (Kd.C_below HR0.out HB.out) | (with_reducible refine Kd.C_alloc ?_ _) | (with_reducible refine Kd.C_drewN ?_ _) | (with_reducible refine Kd.C_drew ?_))); (case side2 => exact HC0.out); rintro e w29 ⟨rfl, hb⟩; have n0_ := Aside0.mk (below_step (by repeat (first | (with_reducible first | exact HB.out | apply below_alloc | apply pw_below_drewN | apply below_drew1) | exact HB.out)) hb); clear HB; have HB := n0_; clear n0_; (try clear hb); (try clear hb2); (try clear hk); (try clear hi)))
            go_ret
            exact ⟨by first | rfl | (simp [errW_none, errW_some] <;> rfl) | (simp [*, errW_none, errW_some] <;> rfl), below_step HBF.out (by repeat (first | (with_reducible first | exact HB.out | apply below_alloc | apply pw_below_drewN | apply below_drew1) | exact HB.out))⟩
        · rw [if_neg c12] at H
          have c12b0 : (t357 == t358) = false := beq_eq_false_iff_ne.mpr c12
          have c12b1 : (t357 != t358) = true := bne_iff_ne.mpr c12
          obtain rfl := Option.some.inj H
          go_wp2_with (first | (go_at_call 23; (with_reducible refine (thrumref21_Same.calls k _ _ l0 _ _ l6 true _ ?side1 ?side2 ?side3 ?side4 A8.out).mono ?_); (case side1 => repeat (first | exact HR0.out | (with_reducible refine Kd.C_alloc ?_ _) | (with_reducible refine Kd.C_drewN ?_ _) | (with_reducible refine Kd.C_drew ?_))); (case side2 => exact HC0.out); (case side3 => repeat (first | exact HR6.out | (with_reducible refine Kd.C_alloc ?_ _) | (with_reducible refine Kd.C_drewN ?_ _) | (with_reducible refine Kd.C_drew ?_))); (case side4 => exact HC6.out); rintro e w30 ⟨rfl, hb⟩; have n0_ := Aside0.mk (below_step (by repeat (first | (with_reducible first | exact HB.out | apply below_alloc | apply pw_below_drewN | apply below_drew1) | exact HB.out)) hb); clear HB; have HB := n0_; clear n0_; (try clear hb); (try clear hb2); (try clear hk); (try clear hi)) | (go_at_call 50; (with_reducible refine (net_Check.calls k a2 _ _ l0 t357 _ ?side1 ?side2 A10.out).mono ?_); (case side1 => repeat (first | exact (Kd.C_below HR0.out HB.out) | (with_reducible refine Kd.C_alloc ?_ _) | (with_reducible refine Kd.C_drewN ?_ _) | (with_reducible refine Kd.C_drew ?_))); (case side2 => exact HC0.out); rintro e w31 ⟨rfl, hb⟩; have n0_ := Aside0.mk (below_step (by repeat (first | (with_reducible first | exact HB.out | apply below_alloc | apply pw_below_drewN | apply below_drew1) | exact HB.out)) hb); clear HB; have HB := n0_; clear n0_; (try clear hb); (try clear hb2); (try clear hk); (try clear hi)) | (go_at_call 51; (with_reducible refine (thrumref21_Check.calls k a2 _ _ l0 t358 _ ?side1 ?side2 A11.out).mono ?_); (case side1 => repeat (first | exact (Kd.C_below HR0.out HB.out) | (with_reducible refine Kd.C_alloc ?_ _) | (with_reducible refine Kd.C_drewN ?_ _) | (with_reducible refine Kd.C_drew ?_))); (case side2 => exact HC0.out); rintro e w32 ⟨rfl, hb⟩; have n0_ := Aside0.mk (below_step (by repeat (first | (with_reducible first | exact HB.out | apply below_alloc | apply pw_below_drewN | apply below_drew1) | exact HB.out)) hb); clear HB; have HB := n0_; clear n0_; (try clear hb); (try clear hb2); (try clear hk); (try clear hi)))
          go_ret
          exact ⟨by first | rfl | (simp [errW_none, errW_some] <;> rfl) | (simp [*, errW_none, errW_some] <;> rfl), below_step HBF.out (by repeat (first | (with_reducible first | exact HB.out | apply below_alloc | apply pw_below_drewN | apply below_drew1) | exact HB.out))⟩
      · replace c9 := Bool.eq_false_iff.mpr c9
        subst c9
        have H1 : (some false) = some r := by rw [if_neg (show ¬ (false = true) by decide)] at H; exact H
        clear H
        have H := H1
        clear H1
        obtain rfl := Option.some.inj H
        go_wp2_with (first | (go_at_call 23; (with_reducible refine (thrumref21_Same.calls k _ _ l0 _ _ l6 false _ ?side1 ?side2 ?side3 ?side4 A8.out).mono ?_); (case side1 => repeat (first | exact HR0.out | (with_reducible refine Kd.C_alloc ?_ _) | (with_reducible refine Kd.C_drewN ?_ _) | (with_reducible refine Kd.C_drew ?_))); (case side2 => exact HC0.out); (case side3 => repeat (first | exact HR6.out | (with_reducible refine Kd.C_alloc ?_ _) | (with_reducible refine Kd.C_drewN ?_ _) | (with_reducible refine Kd.C_drew ?_))); (case side4 => exact HC6.out); rintro e w33 ⟨rfl, hb⟩; have n0_ := Aside0.mk (below_step (by repeat (first | (with_reducible first | exact HB.out | apply below_alloc | apply pw_below_drewN | apply below_drew1) | exact HB.out)) hb); clear HB; have HB := n0_; clear n0_; (try clear hb); (try clear hb2); (try clear hk); (try clear hi)))
        go_ret
        exact ⟨by first | rfl | (simp [errW_none, errW_some] <;> rfl) | (simp [*, errW_none, errW_some] <;> rfl), below_step HBF.out (by repeat (first | (with_reducible first | exact HB.out | apply below_alloc | apply pw_below_drewN | apply below_drew1) | exact HB.out))⟩
    | succ k1 =>
      have hxl : x < (L183 : Int) := by have := HXL.out; have := HX0.out; omega
      have c1b0 : decide (x < (L183 : Int)) = true := decide_eq_true hxl
      obtain ⟨ad, b, B, m, cc, eA, hx_0, hx_1, hm, hBk⟩ := at_rows HRw.out x HX0.out hxl
      cases eA
      have HBk := Aside0.mk hBk
      have HM := Aside0.mk hm
      clear hBk hm
      have p1 := eq_true HX0.out
      have q1 := eq_true hxl
      clear hxl
      go_wp2_with (first | ((with_reducible refine gate_dst (N := 26) rfl ?_); refine box_event ?hg (N := 26) ?hd (cs := #[.int .i64 0, .slice none 0 0]) (t := 40) ?hr ?_; (case hd => rfl); (case hg => rfl); (case hr => first | (go_simp; done) | (go_simp; rfl)); intro gb hg w7 hbox hb; have HW7 := Aside0.mk hb; have BK := Aside0.mk hbox; have GE := Aside0.mk (Nat.le_of_eq hg.symm); clear hb hbox hg; have hcz_0 : w7.cell? ⟨gb, 0, none⟩ = some (.int .i64 0) := (blk_cell BK.out 0).trans rfl; have hcz_1 : w7.cell? ⟨gb, 1, none⟩ = some (.slice none 0 0) := (blk_cell BK.out 1).trans rfl; have hfz_0 := blk_frozen BK.out 0; have hfz_1 := blk_frozen BK.out 1))
      go_loopg [192] m (fun kq v192 w' => ∃ (y : Int), v192 = .int .i64 y ∧ Aside0 (0 ≤ y) ∧ Aside0 (y.toNat + kq = m) ∧ Aside0 (Rows wSa.heap.size w' (some ad) L183) ∧ Aside0 (Bk wSa.heap.size w' B m) ∧ Aside0 (w'.heap[gb]? = some (.cells #[.int .i64 b, .slice B m cc] 40 (0, 0))) ∧ Aside0 (Below wSa.heap.size wSa w'))
      case atStart =>
        refine ⟨0, rfl, ⟨by decide⟩, ⟨by simp⟩, ⟨HRw.out.below ?hw⟩, ⟨HBk.out.below ?hw2⟩, ⟨?hb⟩, ⟨below_step HBw.out ?hw3⟩⟩
        case hw => exact (by repeat (first | exact HW7.out | refine below_set ?_ GE.out))
        case hw2 => exact (by repeat (first | exact HW7.out | refine below_set ?_ GE.out))
        case hw3 => exact (by repeat (first | exact HW7.out | refine below_set ?_ GE.out))
        case hb => exact (by refine blk_put (cs := #[.int .i64 b, .slice none 0 0]) ?_ 1 _ rfl; refine blk_put (cs := #[.int .i64 0, .slice none 0 0]) ?_ 0 _ rfl; exact BK.out)
      case round =>
        clear HRw HBw HW7 BK GE hcz_0 hcz_1 hfz_0 hfz_1 HBk hx_0 hx_1 q1 p1
        obtain ⟨y, rfl, HY0, HYL, HRw, HBk, BK, HBw⟩ := hrel
        cases gk with
        | zero =>
          have c2b0 : decide (y < (m : Int)) = false := decide_eq_false (by have := HYL.out; have := HY0.out; omega)
          go_wp2
          go_roundg k1
          case measure => omega
          case rel => exact ⟨wrap64 (x + 1), rfl, ⟨by have := HX0.out; have := HXL.out; have := HLL.out; unfold wrap64; omega⟩, ⟨by have := HX0.out; have := HXL.out; have := HLL.out; unfold wrap64; omega⟩, HRw, HBw⟩
        | succ k2 =>
          have hyl : y < (m : Int) := by have := HYL.out; have := HY0.out; omega
          have c2b0 : decide (y < (m : Int)) = true := decide_eq_true hyl
          obtain ⟨g5, cells5, rfl, hE5, hblk5, hz5⟩ := HBk.out (by have := HYL.out; omega)
          obtain ⟨z5, hz5⟩ := hz5 y.toNat (by have := HY0.out; omega)
          have hcz_0 : wr.cell? ⟨gb, 0, none⟩ = some (.int .i64 b) := (blk_cell BK.out 0).trans rfl
          have hcz_1 : wr.cell? ⟨gb, 1, none⟩ = some (.slice (some ⟨g5, 0, none⟩) m cc) := (blk_cell BK.out 1).trans rfl
          have hx5 : wr.cell? ⟨g5, y.toNat, none⟩ = some (.int .u8 z5) := (blk_cell hblk5 _).trans hz5
          have hf5 : wr.frozen? ⟨g5, y.toNat, none⟩ = false := blk_frozen hblk5 _
          have HE5 := Aside0.mk hE5
          have HB5 := Aside0.mk hblk5
          clear hE5 hblk5 hz5
          have p2 := eq_true HY0.out
          have q2 := eq_true hyl
          clear hyl
          go_wp2
          go_roundg k2
          case measure => omega
          case rel => exact ⟨wrap64 (y + 1), rfl, ⟨by have := HY0.out; have := HYL.out; have := HM.out; unfold wrap64; omega⟩, ⟨by have := HY0.out; have := HYL.out; have := HM.out; unfold wrap64; omega⟩, ⟨HRw.out.put HB5.out _⟩, ⟨HBk.out.put HB5.out _⟩, ⟨far_blk (blk_ne BK.out HB5.out (by decide)) BK.out⟩, ⟨below_set HBw.out HE5.out⟩⟩
end Go.Proofs.Ytlppmamhbpcfcaa.MNet
