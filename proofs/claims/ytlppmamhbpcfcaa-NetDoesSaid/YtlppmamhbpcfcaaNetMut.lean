/- What the last loop of NetDoes writes over: lists of texts whose bytes lie in blocks of their own; condition: the lists come from Send and Spoil. -/
import Derived.Test.YtlppmamhbpcfcaaPNA
namespace Go.Proofs.Ytlppmamhbpcfcaa.MNet
open Go.RowKit Go.Proofs.YtlppmamhbpcfcaaW.PrintWords Go.Proofs.YtlppmamhbpcfcaaW.PrintLast Go.Proofs.YtlppmamhbpcfcaaW.PrintMore
attribute [local go_sem] max2_int min2_int max_two min_two max_three min_three max_four min_four   -- for this text's walks alone
set_option linter.unusedVariables false
set_option linter.unusedSimpArgs false

/-- Bytes, where there are any, in a block that may be written. -/
def Wr (w : World) (n : Nat) (cs : List Value) : Prop := 0 < n → ∃ g c cells, cs[1]? = some (.slice (some ⟨g, 0, none⟩) n c) ∧ w.heap[g]? = some (.cells cells 5 (0, 0))
def k40u : Kd S40 where
  sz := k40.sz
  E := k40.E
  K := fun w x cs => k40.K w x cs ∧ Wr w x.f1.length cs
  M := k40.M
  K_len := fun h => k40.K_len h.1
  K_one := fun h => k40.K_one h.1
  K_below := fun hb h => ⟨k40.K_below hb h.1, fun hn => by
    obtain ⟨g, c, cells, h1, h2⟩ := h.2 hn
    exact ⟨g, c, cells, h1, blk_below h2 hb⟩⟩
  K_of_M := fun h => ⟨k40.K_of_M h, by
    obtain ⟨v1, rfl, g1⟩ := k40_openM h
    intro hn
    obtain ⟨g, cap, rfl, hb, hl, cells, hc⟩ := Kd.R_form g1 hn
    exact ⟨g, cap, cells, rfl, hc⟩⟩
  M_mono := k40.M_mono
  M_bound := k40.M_bound
  M_move := k40.M_move
  M_lower := k40.M_lower
theorem k40u_N {e base : Nat} {w : World} {ok : Nat → Prop} {v : Value} {xs : List S40} (h : Kd.N k40u e w base ok v xs) : Kd.N k40 e w base ok v xs := by
  obtain ⟨h0, rows, hl, hR, hf⟩ := h
  exact ⟨h0, rows, hl, hR, fun j x c hx hc W' hW => (hf j x c hx hc W' hW).1⟩
theorem k40u_S {e base : Nat} {w : World} {ok : Nat → Prop} {v : Value} {xs : List S40} (h : Kd.S k40 e w base ok v xs) : Kd.S k40u e w base ok v xs := h

def Bk (E : Nat) (w : World) (B : Option Addr) (m : Nat) : Prop := 0 < m → ∃ g cells, B = some ⟨g, 0, none⟩ ∧ E ≤ g ∧ w.heap[g]? = some (.cells cells 5 (0, 0)) ∧ ∀ j, j < m → ∃ z : Int, cells[j]? = some (.int .u8 z)
def Rows (E : Nat) (w : World) (A : Option Addr) (L : Nat) : Prop := ∀ i, i < L → ∃ g b B m cc, A = some ⟨g, 0, none⟩ ∧ (∃ cells, w.heap[g]? = some (.cells cells 40 (0, 0))) ∧ w.cell? ⟨g, i * 2, none⟩ = some (.int .i64 b) ∧ w.cell? ⟨g, i * 2 + 1, none⟩ = some (.slice B m cc) ∧ m ≤ 9223372036854775807 ∧ Bk E w B m
theorem bk_of_FK {E : Nat} {w : World} {g : Nat} {x : S40} {c : List Value} (h : Kd.FK k40u w (fun k => E ≤ k ∧ k ≠ g) x c) : ∃ B cc, c = [.int .i64 x.f0, .slice B x.f1.length cc] ∧ x.f1.length ≤ 9223372036854775807 ∧ Bk E w B x.f1.length := by
  have h1 := Kd.FK_now h
  obtain ⟨hk, hw⟩ := h1
  obtain ⟨A1, c1, rfl, hc1, hC⟩ := k40_open hk
  refine ⟨A1, c1, rfl, hC.2.1, fun hn => ?_⟩
  obtain ⟨g1, c2, cells, he, hg⟩ := hw hn
  simp only [List.getElem?_cons_succ, List.getElem?_cons_zero, Option.some.injEq, Value.slice.injEq] at he
  obtain ⟨rfl, _, rfl⟩ := he
  have key : ∀ W' : World, (∀ k, (E ≤ k ∧ k ≠ g) → k < w.heap.size → W'.heap[k]? = w.heap[k]?) → (Kd.int .u8).C W' (some ⟨g1, 0, none⟩) x.f1.length x.f1 := by
    intro W' hW
    obtain ⟨A2, c3, he2, _, hC2⟩ := k40_open (h W' hW).1
    simp only [List.cons.injEq, Value.slice.injEq, true_and, and_true] at he2
    rw [he2.1]
    exact hC2
  refine ⟨g1, cells, rfl, ?_, hg, fun j hj => ?_⟩
  · by_cases hE : E ≤ g1
    · exact hE
    · exfalso
      have hC2 := key { w with heap := w.heap.setIfInBounds g1 (.cells #[] 5 (0, 0)) } (fun k hk hlt => by
        have hne : g1 ≠ k := fun e => hE (e ▸ hk.1)
        simp only [Array.getElem?_setIfInBounds, if_neg hne])
      obtain ⟨_, _, h3⟩ := hC2
      obtain ⟨ad, he3, h4⟩ := h3 hn
      obtain ⟨c, hcl, hP, hcell⟩ := h4 0 _ (List.getElem?_eq_getElem hn)
      have hc0 := hcell 0 (c[0]'(by rw [hcl]; decide)) (List.getElem?_eq_getElem _)
      injection he3 with he3
      subst he3
      rw [add_at, blk_cell (cs := #[]) (t := 5) (by
        have hl : g1 < w.heap.size := blk_lt hg
        simp [hl])] at hc0
      simp at hc0
  · obtain ⟨_, _, h3⟩ := key w (fun _ _ _ => rfl)
    obtain ⟨ad, he3, h4⟩ := h3 hn
    obtain ⟨c, hcl, hP, hcell⟩ := h4 j _ (List.getElem?_eq_getElem hj)
    injection he3 with he3
    subst he3
    have hP' : c = [.int .u8 x.f1[j]] := hP
    have hc0 := hcell 0 (.int .u8 x.f1[j]) (by rw [hP']; rfl)
    rw [add_at, blk_cell hg] at hc0
    have e1 : 0 + (j * (Kd.int .u8).sz + 0) = j := by show 0 + (j * 1 + 0) = j; omega
    rw [e1] at hc0
    exact ⟨_, hc0⟩
theorem rows_of_N {E base : Nat} {w : World} {A : Option Addr} {n c : Nat} {xs : List S40} (h : Kd.N k40u 40 w base (fun k => E ≤ k) (.slice A n c) xs) : Rows E w A n := by
  intro i hi
  have hn := (Kd.N_reads' h).1
  obtain ⟨g, cap, he, _, hlt, cells, hcells⟩ := Kd.N_form h (by omega)
  injection he with h1 h2 h3
  subst h1
  obtain ⟨cs, hcl, hf, hcell, _⟩ := Kd.N_elem h z40 (i : Int) (by omega) (by omega)
  obtain ⟨B, cc, rfl, hm, hb⟩ := bk_of_FK hf
  have e0 := hcell 0 _ rfl
  have e1 := hcell 1 _ rfl
  simp only [Int.toNat_natCast] at e0 e1 hb hm
  exact ⟨g, _, B, _, cc, rfl, ⟨cells, hcells⟩, e0, e1, hm, hb⟩
theorem Bk.below {E m : Nat} {w w1 : World} {B : Option Addr} (h : Bk E w B m) (hb : Below w.heap.size w w1) : Bk E w1 B m := fun hm => by
  obtain ⟨g, cells, h1, h2, h3, h4⟩ := h hm
  exact ⟨g, cells, h1, h2, blk_below h3 hb, h4⟩
theorem Rows.below {E L : Nat} {w w1 : World} {A : Option Addr} (h : Rows E w A L) (hb : Below w.heap.size w w1) : Rows E w1 A L := fun i hi => by
  obtain ⟨g, b, B, m, cc, h1, ⟨cells, h2⟩, h3, h4, h5, h6⟩ := h i hi
  exact ⟨g, b, B, m, cc, h1, ⟨cells, blk_below h2 hb⟩, pw_cell_below hb h3, pw_cell_below hb h4, h5, h6.below hb⟩
theorem far_blk {w : World} {g h j : Nat} {u : Value} {o : Obj} (hne : h ≠ g) (hb : w.heap[h]? = some o) : (w.setCell ⟨g, j, none⟩ u).heap[h]? = some o := (Below.heap_setCell w ⟨g, j, none⟩ u h hne).trans hb
theorem Bk.put {E m : Nat} {w : World} {B : Option Addr} (h : Bk E w B m) {g j : Nat} {cells : Array Value} (hg : w.heap[g]? = some (.cells cells 5 (0, 0))) (z : Int) : Bk E (w.setCell ⟨g, j, none⟩ (.int .u8 z)) B m := fun hm => by
  obtain ⟨g1, cells1, h1, h2, h3, h4⟩ := h hm
  by_cases he : g1 = g
  · subst he
    rw [hg] at h3
    injection h3 with h3
    injection h3 with h3
    subst h3
    refine ⟨g1, _, h1, h2, blk_put hg j _ rfl, fun i hi => ?_⟩
    obtain ⟨z1, hz⟩ := h4 i hi
    by_cases hij : j = i
    · subst hij
      have hlt : j < cells.size := by
        rcases Nat.lt_or_ge j cells.size with hh | hh
        · exact hh
        · rw [Array.getElem?_eq_none hh] at hz; cases hz
      exact ⟨z, by simp [Array.getElem?_setIfInBounds, hlt]⟩
    · exact ⟨z1, by rw [Array.getElem?_setIfInBounds, if_neg hij]; exact hz⟩
  · exact ⟨g1, cells1, h1, h2, far_blk he h3, h4⟩
theorem far_cell {w : World} {g h i j t : Nat} {u v : Value} {cells : Array Value} (hne : h ≠ g) (hb : w.heap[h]? = some (.cells cells t (0, 0))) (hc : w.cell? ⟨h, i, none⟩ = some v) : (w.setCell ⟨g, j, none⟩ u).cell? ⟨h, i, none⟩ = some v := by
  rw [blk_cell (far_blk hne hb), ← blk_cell hb]
  exact hc
theorem Rows.put {E L : Nat} {w : World} {A : Option Addr} (h : Rows E w A L) {g j : Nat} {cells : Array Value} (hg : w.heap[g]? = some (.cells cells 5 (0, 0))) (z : Int) : Rows E (w.setCell ⟨g, j, none⟩ (.int .u8 z)) A L := fun i hi => by
  obtain ⟨g1, b, B, m, cc, h1, ⟨cells1, h2⟩, h3, h4, h5, h6⟩ := h i hi
  have hne : g1 ≠ g := blk_ne h2 hg (by decide)
  exact ⟨g1, b, B, m, cc, h1, ⟨cells1, far_blk hne h2⟩, far_cell hne h2 h3, far_cell hne h2 h4, h5, h6.put hg z⟩
theorem at_rows {E L : Nat} {w : World} {A : Option Addr} (h : Rows E w A L) (i : Int) (h0 : 0 ≤ i) (h1 : i < L) : ∃ ad b B m cc, A = some ad ∧ w.cell? (ad.add (i.toNat * 2)) = some (.int .i64 b) ∧ w.cell? ⟨(ad.add (i.toNat * 2)).block, (ad.add (i.toNat * 2)).off + 1, none⟩ = some (.slice B m cc) ∧ m ≤ 9223372036854775807 ∧ Bk E w B m := by
  obtain ⟨g, b, B, m, cc, e, _, h3, h4, h5, h6⟩ := h i.toNat (by omega)
  refine ⟨⟨g, 0, none⟩, b, B, m, cc, e, ?_, ?_, h5, h6⟩
  · rw [add_at, Nat.zero_add]; exact h3
  · rw [add_at]; simp only [Nat.zero_add]; exact h4
set_option maxHeartbeats 8000000 in
set_option maxRecDepth 100000 in
theorem net_Send.calls_u (k : Nat) (A0 : Option Addr) (c0 : Nat) (l0 : List (S40)) (A1 : Option Addr) (c1 : Nat) (l1 : List (S40)) (r1 : List (S40)) (r2 : Int) (w : World) (hr0 : Kd.C k40 w A0 l0.length l0) (hc0 : l0.length ≤ c0) (hr1 : Kd.C k40 w A1 l1.length l1) (hc1 : l1.length ≤ c1) (h : net_Send.f k l0 l1 = some (r1, r2)) :
    Calls Try.prog 22 #[.slice A0 l0.length c0, .slice A1 l1.length c1] w fun e w' => ∃ v0_ : Value, e = .returned (.tuple #[v0_, .int .i64 r2]) ∧ Kd.N k40u 40 w' w.heap.size (fun k_ => (w.heap.size ≤ k_)) v0_ r1 ∧ Below w.heap.size w w' := by
  have HR0 := Aside0.mk hr0
  have HC0 := Aside0.mk hc0
  clear hr0 hc0
  have HR1 := Aside0.mk hr1
  have HC1 := Aside0.mk hc1
  clear hr1 hc1
  have HB := Aside0.mk (Below.refl w.heap.size w)
  have H : ((net_copied.f k l0).bind fun t121 => (if 0 ≤ (mn (mx (wrap64 (512 - (l0.length : Int))) 0) (l1.length : Int)) then (if (mn (mx (wrap64 (512 - (l0.length : Int))) 0) (l1.length : Int)) ≤ (l1.length : Int) then ((net_copied.f k (l1.take ((mn (mx (wrap64 (512 - (l0.length : Int))) 0) (l1.length : Int)) : Int).toNat)).bind fun t128 => (if t121.length + t128.length < 4398046511104 then (some ((t121 ++ t128), wrap64 ((l1.length : Int) - (mn (mx (wrap64 (512 - (l0.length : Int))) 0) (l1.length : Int))))) else (none))) else (none)) else (none))) = some (r1, r2) := h
  clear h
  obtain ⟨ji3, hji3⟩ : ∃ j_ : Int, (mx (wrap64 (512 - (l0.length : Int))) 0) = j_ := ⟨_, rfl⟩
  replace H : ((net_copied.f k l0).bind fun t121 => (if 0 ≤ (mn (ji3) (l1.length : Int)) then (if (mn (ji3) (l1.length : Int)) ≤ (l1.length : Int) then ((net_copied.f k (l1.take ((mn (ji3) (l1.length : Int)) : Int).toNat)).bind fun t128 => (if t121.length + t128.length < 4398046511104 then (some ((t121 ++ t128), wrap64 ((l1.length : Int) - (mn (ji3) (l1.length : Int))))) else (none))) else (none)) else (none))) = some (r1, r2) := by first | (rw [hji3] at H; exact H) | (simp only [hji3] at H ⊢; exact H)
  (try (have hji3l : 0 ≤ ji3 := by (rw [← hji3]; unfold mx; (repeat' split) <;> omega)))
  (try (have hji3m : 0 ≤ ji3 := by omega))
  have hji3_ : (if (wrap64 (512 - (l0.length : Int))) < 0 then 0 else (wrap64 (512 - (l0.length : Int)))) = ji3 := hji3
  obtain ⟨ji4, hji4⟩ : ∃ j_ : Int, (mn (ji3) (l1.length : Int)) = j_ := ⟨_, rfl⟩
  replace H : ((net_copied.f k l0).bind fun t121 => (if 0 ≤ (ji4) then (if (ji4) ≤ (l1.length : Int) then ((net_copied.f k (l1.take ((ji4) : Int).toNat)).bind fun t128 => (if t121.length + t128.length < 4398046511104 then (some ((t121 ++ t128), wrap64 ((l1.length : Int) - (ji4)))) else (none))) else (none)) else (none))) = some (r1, r2) := by first | (rw [hji4] at H; exact H) | (simp only [hji4] at H ⊢; exact H)
  have hji4_ : (if (l1.length : Int) < (ji3) then (l1.length : Int) else (ji3)) = ji4 := hji4
  replace H := Option.bind_eq_some_iff.mp H
  obtain ⟨t121, A50, H⟩ := H
  replace H : (if 0 ≤ (ji4) then (if (ji4) ≤ (l1.length : Int) then ((net_copied.f k (l1.take ((ji4) : Int).toNat)).bind fun t128 => (if t121.length + t128.length < 4398046511104 then (some ((t121 ++ t128), wrap64 ((l1.length : Int) - (ji4)))) else (none))) else (none)) else (none)) = some (r1, r2) := H
  have A5 := Aside0.mk A50
  clear A50
  by_cases c6 : 0 ≤ (ji4)
  · rw [if_pos c6] at H
    have c6b0 := eq_true c6
    have c6b1 : decide (0 ≤ (ji4)) = true := decide_eq_true c6
    clear c6
    by_cases c7 : (ji4) ≤ (l1.length : Int)
    · rw [if_pos c7] at H
      have c7b0 := eq_true c7
      have c7b1 : decide ((ji4) ≤ (l1.length : Int)) = true := decide_eq_true c7
      clear c7
      obtain ⟨y124, hy124⟩ : ∃ y_ : List (S40), y_ = (l1.take ((ji4) : Int).toNat) := ⟨_, rfl⟩
      replace H : ((net_copied.f k y124).bind fun t128 => (if t121.length + t128.length < 4398046511104 then (some ((t121 ++ t128), wrap64 ((l1.length : Int) - (ji4)))) else (none))) = some (r1, r2) := by first | (rw [hy124]; with_reducible exact H) | (have H2_ := (Option.bind_some _ _).symm.trans H; rw [hy124]; with_reducible exact H2_) | (have H2_ := (Option.bind_some _ _).symm.trans H; with_reducible exact H2_) | with_reducible exact H | (rw [hy124]; exact H) | exact H
      have Ny124 := Aside0.mk hy124
      clear hy124
      replace H := Option.bind_eq_some_iff.mp H
      obtain ⟨t128, A80, H⟩ := H
      replace H : (if t121.length + t128.length < 4398046511104 then (some ((t121 ++ t128), wrap64 ((l1.length : Int) - (ji4)))) else (none)) = some (r1, r2) := H
      have A8 := Aside0.mk A80
      clear A80
      by_cases c9 : t121.length + t128.length < 4398046511104
      · rw [if_pos c9] at H
        have LMc9 := Aside0.mk c9
        clear c9
        obtain ⟨y131, hy131⟩ : ∃ y_ : List (S40), y_ = (t121 ++ t128) := ⟨_, rfl⟩
        replace H : (some (y131, wrap64 ((l1.length : Int) - (ji4)))) = some (r1, r2) := by first | (rw [hy131]; with_reducible exact H) | (have H2_ := (Option.bind_some _ _).symm.trans H; rw [hy131]; with_reducible exact H2_) | (have H2_ := (Option.bind_some _ _).symm.trans H; with_reducible exact H2_) | with_reducible exact H | (rw [hy131]; exact H) | exact H
        have Ny131 := Aside0.mk hy131
        clear hy131
        simp only [Option.some.injEq, Prod.mk.injEq] at H
        obtain ⟨rfl, rfl⟩ := H
        go_enter Try.func22, Try.ntmps22
        try go_wp2
        have n0_ := Aside0.mk (below_drew1 HB.out)
        clear HB
        have HB := n0_
        clear n0_
        have q11 : ((ji4) : Int) ≤ ((l1.length : Int) : Int) := of_decide_eq_true (by first | (with_reducible assumption) | assumption)
        obtain ⟨i011, hi011, _, hsz11, _⟩ := info_parts info40
        have hroom11 : l1.length ≤ c1 := HC1.out
        have hC11 : Kd.C k40 _ A1 l1.length l1 := HR1.out
        have hcut11 := cut_to (P := Try.prog) 33 40 .i64 Try.underlying33 hi011 A1 l1.length c1 (ji4) (of_decide_eq_true (by first | (with_reducible assumption) | assumption)) q11 hroom11
        have hr11 := Kd.C_take (m := ((ji4) : Int).toNat) hC11 (by omega)
        have hy11 : y124.length = ((ji4) : Int).toNat := (by rw [Ny124.out, List.length_take]; omega)
        rw [← Ny124.out] at hr11
        rw [← hy11] at hcut11
        have HR127 := Aside0.mk hr11
        have HC127 := Aside0.mk (show y124.length ≤ c1 from by omega)
        clear hr11 hC11 hroom11 hi011 hsz11
        have KY11 := Aside0.mk hy11
        clear hy11
        replace q11 := eq_true q11; (try (have q11s := q11; rw [List.length_drop] at q11s)); (try (have q11t := q11; rw [List.length_take] at q11t))
        refine start_ (n := 13) (S := fun w' => True) (ds := []) #[false, false, false, false, false, false, false, false, false, false, false, false, false] (by kernel_rfl) rfl rfl trivial (fun hHeld => ?_); refine with_tabW net_Send.tab2 net_Send.bits2 (fun HT_ HW_ => ?_)
        generalize w.drew = w10 at HB HR127 hHeld ⊢
        refine pure_ (i := 0) (N := some 14) (v := ?_) (a' := ?_) #[true, false, false, false, false, false, false, false, false, false, false, false, false] rfl rfl (any_of HT_.out (by kernel_rfl)) (fun _ _ _ h => h) (Or.inl ⟨by rfl, ?_⟩) ?_ ?_
        rotate_left
        · intro w'
          go_simp
          with_reducible rfl
        rotate_left
        · simp only [Act.put, List.setIfInBounds_toArray, List.set_cons_zero, List.set_cons_succ, i64_w, i32_w]
          rfl
        refine pure_ (i := 2) (N := some 16) (v := ?_) (a' := ?_) #[true, false, true, false, false, false, false, false, false, false, false, false, false] rfl rfl (any_of HT_.out (by kernel_rfl)) (fun _ _ _ h => h) (Or.inl ⟨by rfl, ?_⟩) ?_ ?_
        rotate_left
        · intro w'
          go_simp
          with_reducible rfl
        rotate_left
        · simp only [Act.put, List.setIfInBounds_toArray, List.set_cons_zero, List.set_cons_succ, i64_w, i32_w]
          rfl
        refine pure_ (i := 3) (N := some 17) (v := ?_) (a' := ?_) #[true, false, true, true, false, false, false, false, false, false, false, false, false] rfl rfl (any_of HT_.out (by kernel_rfl)) (fun _ _ _ h => h) (Or.inl ⟨by rfl, ?_⟩) ?_ ?_
        rotate_left
        · intro w'
          go_simp
          with_reducible rfl
        rotate_left
        · simp only [Act.put, List.setIfInBounds_toArray, List.set_cons_zero, List.set_cons_succ, i64_w, i32_w]
          rfl
        refine pure_ (i := 4) (N := some 18) (v := ?_) (a' := ?_) #[true, false, true, true, true, false, false, false, false, false, false, false, false] rfl rfl (any_of HT_.out (by kernel_rfl)) (fun _ _ _ h => h) (Or.inl ⟨by rfl, ?_⟩) ?_ ?_
        rotate_left
        · intro w'
          go_simp
          with_reducible rfl
        rotate_left
        · simp only [Act.put, List.setIfInBounds_toArray, List.set_cons_zero, List.set_cons_succ, i64_w, i32_w]
          rfl
        refine pure_ (i := 7) (N := some 21) (v := ?_) (a' := ?_) #[true, false, true, true, true, false, false, true, false, false, false, false, false] rfl rfl (any_of HT_.out (by kernel_rfl)) (fun _ _ _ h => h) (Or.inl ⟨by rfl, ?_⟩) ?_ ?_
        rotate_left
        · intro w'
          go_simp
          with_reducible rfl
        rotate_left
        · simp only [Act.put, List.setIfInBounds_toArray, List.set_cons_zero, List.set_cons_succ, i64_w, i32_w]
          rfl
        refine pure_ (i := 8) (N := some 22) (v := ?_) (a' := ?_) #[true, false, true, true, true, false, false, true, true, false, false, false, false] rfl rfl (any_of HT_.out (by kernel_rfl)) (fun _ _ _ h => h) (Or.inl ⟨by rfl, ?_⟩) ?_ ?_
        rotate_left
        · intro w'
          go_simp
          with_reducible rfl
        rotate_left
        · simp only [Act.put, List.setIfInBounds_toArray, List.set_cons_zero, List.set_cons_succ, i64_w, i32_w]
          rfl
        refine pure_ (i := 9) (N := some 23) (v := ?_) (a' := ?_) #[true, false, true, true, true, false, false, true, true, true, false, false, false] rfl rfl (any_of HT_.out (by kernel_rfl)) (fun _ _ _ h => h) (Or.inl ⟨by rfl, ?_⟩) ?_ ?_
        rotate_left
        · intro w'
          go_simp
          with_reducible rfl
        rotate_left
        · simp only [Act.put, List.setIfInBounds_toArray, List.set_cons_zero, List.set_cons_succ, i64_w, i32_w]
          rfl
        refine pure_ (i := 10) (N := some 24) (v := ?_) (a' := ?_) #[true, false, true, true, true, false, false, true, true, true, true, false, false] rfl rfl (any_of HT_.out (by kernel_rfl)) (fun _ _ _ h => h) (Or.inl ⟨by rfl, ?_⟩) ?_ ?_
        rotate_left
        · intro w'
          go_simp
          with_reducible rfl
        rotate_left
        · simp only [Act.put, List.setIfInBounds_toArray, List.set_cons_zero, List.set_cons_succ, i64_w, i32_w]
          rfl
        refine one_ (i := 1) (N := some 15) #[true, true, true, true, true, false, false, true, true, true, true, false, false] rfl rfl (one_of HT_.out (by kernel_rfl)) (by decide) (fun K hK => ?_)
        refine goes_ Try.func59 (by kernel_rfl) rfl #[.slice A0 l0.length c0] (by rfl) rfl rfl (by (try simp only [List.map_toArray, List.map_cons, List.map_nil]); first | done | rfl | (simp only [List.length_drop, List.length_take]; rfl)) ?_
        with_reducible refine (net_copied.calls k _ _ l0 t121 _ ?side1 ?side2 A5.out).mono ?_
        (case side1 => repeat (first | exact (Kd.C_below HR0.out HB.out) | (with_reducible refine Kd.C_alloc ?_ _) | (with_reducible refine Kd.C_drewN ?_ _) | (with_reducible refine Kd.C_drew ?_)))
        (case side2 => exact HC0.out)
        rintro e w12 ⟨v122, rfl, ho0, hb⟩
        replace ho0 := k40u_S ho0
        refine ⟨_, rfl, ?_⟩
        have n0_ := Aside0.mk (Kd.N_lower (Kd.N_mono (ok' := fun k_ => (w.heap.size ≤ k_)) (Kd.S_N (Kd.S_bound ho0)) (fun k_ hk_ => (Nat.le_trans (below_size (by repeat (first | (with_reducible first | exact HB.out | apply below_alloc | apply pw_below_drewN | apply below_drew1) | exact HB.out))) hk_.2.1))) (below_size (by repeat (first | (with_reducible first | exact HB.out | apply below_alloc | apply pw_below_drewN | apply below_drew1) | exact HB.out))))
        have n1_ := Aside0.mk (below_step (by repeat (first | (with_reducible first | exact HB.out | apply below_alloc | apply pw_below_drewN | apply below_drew1) | exact HB.out)) hb)
        clear HB
        have HO123 := n0_
        have HB := n1_
        clear n0_ n1_
        (try clear hb)
        (try clear hb2)
        (try clear hk)
        (try clear hi)
        (try clear ho0)
        refine hK.out _ _ trivial (fun hHeld => ?_)
        clear hK K
        refine norm_ (a' := ?_) ?_ ?_
        rotate_left
        · show Act.put _ (some 15) _ = _
          simp only [Act.put, List.setIfInBounds_toArray, List.set_cons_zero, List.set_cons_succ, i64_w, i32_w]
          rfl
        refine one_ (i := 5) (N := some 19) #[true, true, true, true, true, true, false, true, true, true, true, false, false] rfl rfl (one_of HT_.out (by kernel_rfl)) (by decide) (fun K hK => ?_)
        refine goes_ Try.func59 (by kernel_rfl) rfl #[.slice A1 y124.length c1] (by rfl) rfl rfl (by (try simp only [List.map_toArray, List.map_cons, List.map_nil]); first | done | rfl | (simp only [List.length_drop, List.length_take]; rfl)) ?_
        with_reducible refine (net_copied.calls k _ _ y124 t128 _ ?side1 ?side2 A8.out).mono ?_
        (case side1 => repeat (first | exact (Kd.C_below HR127.out HB.out) | (with_reducible refine Kd.C_alloc ?_ _) | (with_reducible refine Kd.C_drewN ?_ _) | (with_reducible refine Kd.C_drew ?_)))
        (case side2 => exact HC127.out)
        rintro e w13 ⟨v129, rfl, ho0, hb⟩
        replace ho0 := k40u_S ho0
        refine ⟨_, rfl, ?_⟩
        have n0_ := Aside0.mk (Kd.N_elder' (by (with_reducible repeat (first | apply Kd.N_alloc | apply Kd.N_drewN | apply Kd.N_drew)); exact HO123.out) (by first | exact Kd.N_base ho0 | exact Kd.S_base ho0) hb)
        have n1_ := Aside0.mk (Kd.N_lower (Kd.N_mono (ok' := fun k_ => (w.heap.size ≤ k_) ∧ some k_ ≠ (v122 : Value).ownBlock) (Kd.S_N (Kd.S_bound ho0)) (fun k_ hk_ => ⟨(Nat.le_trans (below_size (by repeat (first | (with_reducible first | exact HB.out | apply below_alloc | apply pw_below_drewN | apply below_drew1) | exact HB.out))) hk_.2.1), (Kd.fresh' (Kd.N_lt (by (with_reducible repeat (first | apply Kd.N_alloc | apply Kd.N_drewN | apply Kd.N_drew)); exact HO123.out)) k_ hk_.2.1)⟩)) (below_size (by repeat (first | (with_reducible first | exact HB.out | apply below_alloc | apply pw_below_drewN | apply below_drew1) | exact HB.out))))
        have n2_ := Aside0.mk (below_step (by repeat (first | (with_reducible first | exact HB.out | apply below_alloc | apply pw_below_drewN | apply below_drew1) | exact HB.out)) hb)
        clear HO123
        clear HB
        have HO123 := n0_
        have HO130 := n1_
        have HB := n2_
        clear n0_ n1_ n2_
        (try clear hb)
        (try clear hb2)
        (try clear hk)
        (try clear hi)
        (try clear ho0)
        obtain ⟨Ao15, co15, eo15⟩ := Kd.N_slice HO130.out
        (first | subst eo15 | (injection eo15 with f1_ f2_ f3_; have f4_ := f1_.symm; have f5_ := f3_.symm; clear f1_ f2_ f3_; subst f4_; subst f5_))
        refine hK.out _ _ trivial (fun hHeld => ?_)
        clear hK K
        refine norm_ (a' := ?_) ?_ ?_
        rotate_left
        · show Act.put _ (some 19) _ = _
          simp only [Act.put, List.setIfInBounds_toArray, List.set_cons_zero, List.set_cons_succ, i64_w, i32_w]
          rfl
        refine one_ (i := 6) (N := some 20) #[true, true, true, true, true, true, true, true, true, true, true, false, false] rfl rfl (one_of HT_.out (by kernel_rfl)) (by decide) (fun K hK => ?_)
        refine Kd.N_append_rows_step k40u (w0 := w) w.heap.size (by rfl) (.tmp 15) (.tmp 19) 33 40 (.agg #[(.int .i64 0), (.slice none 0 0)]) 32 rfl Try.underlying33 info40 rfl (by decide) (by omega) v122 t121 t128 _ _ _ (fun k_ => (w.heap.size ≤ k_)) (fun k_ => ((fun k_ => (w.heap.size ≤ k_))) k_ ∧ some k_ ≠ (v122 : Value).ownBlock) rfl rfl ?aO ?aR (fun _ hk => hk) ?aF ?aB ?aS ?aL ?_
        (case aR => exact (by skip; exact Kd.N_F (Kd.N_mono (ok' := (fun k_ => ((fun k_ => (w.heap.size ≤ k_))) k_ ∧ some k_ ≠ (v122 : Value).ownBlock)) (HO130.out) (fun k_ hk => ⟨hk.1, hk.2⟩))))
        (case aB => exact (by repeat (first | (with_reducible first | exact HB.out | apply below_alloc | apply pw_below_drewN | apply below_drew1) | exact HB.out)))
        (case aF => exact (fun k_ hk => (Nat.le_trans (below_size (by repeat (first | (with_reducible first | exact HB.out | apply below_alloc | apply pw_below_drewN | apply below_drew1) | exact HB.out))) hk)))
        (case aO => exact (by (with_reducible repeat (first | apply Kd.N_alloc | apply Kd.N_drewN | apply Kd.N_drew)); exact Kd.N_mono HO123.out (fun _ hk => hk.1)))
        (case aS => exact (below_size (by repeat (first | (with_reducible first | exact HB.out | apply below_alloc | apply pw_below_drewN | apply below_drew1) | exact HB.out))))
        (case aL => have := LMc9.out; omega)
        intro v132 w14 ho hb hg hat
        rw [← Ny131.out] at ho
        have n0_ := Aside0.mk (Kd.N_afterv (ok := (fun k_ => (w.heap.size ≤ k_))) (by (with_reducible repeat (first | apply Kd.N_alloc | apply Kd.N_drewN | apply Kd.N_drew)); exact HO130.out) hg hat)
        have n1_ := Aside0.mk (hb)
        have n2_ := Aside0.mk (ho)
        clear HO130
        clear HB
        clear HO123
        have HO130 := n0_
        have HB := n1_
        have HO133 := n2_
        clear n0_ n1_ n2_
        clear ho hb hg hat
        refine hK.out _ _ trivial (fun hHeld => ?_)
        clear hK K
        refine norm_ (a' := ?_) ?_ ?_
        rotate_left
        · show Act.put _ (some 20) _ = _
          simp only [Act.put, List.setIfInBounds_toArray, List.set_cons_zero, List.set_cons_succ, i64_w, i32_w]
          rfl
        refine pure_ (i := 11) (N := some 4) (v := ?_) (a' := ?_) #[true, true, true, true, true, true, true, true, true, true, true, true, false] rfl rfl (any_of HT_.out (by kernel_rfl)) (fun _ _ _ h => h) (Or.inl ⟨by rfl, ?_⟩) ?_ ?_
        rotate_left
        · intro w'
          go_simp
          with_reducible rfl
        rotate_left
        · simp only [Act.put, List.setIfInBounds_toArray, List.set_cons_zero, List.set_cons_succ, i64_w, i32_w]
          rfl
        refine pure_ (i := 12) (N := some 5) (v := ?_) (a' := ?_) #[true, true, true, true, true, true, true, true, true, true, true, true, true] rfl rfl (any_of HT_.out (by kernel_rfl)) (fun _ _ _ h => h) (Or.inl ⟨by rfl, ?_⟩) ?_ ?_
        rotate_left
        · intro w'
          go_simp
          with_reducible rfl
        rotate_left
        · simp only [Act.put, List.setIfInBounds_toArray, List.set_cons_zero, List.set_cons_succ, i64_w, i32_w]
          rfl
        refine done_ (done_of HT_.out (by kernel_rfl)) ?_
        try go_wp2
        go_ret2
        exact ⟨_, by first | rfl | (simp [errW_none, errW_some] <;> rfl) | (simp only [← hji3, ← hji4]; first | rfl | (simp [errW_none, errW_some] <;> rfl)) | (simp [*, errW_none, errW_some] <;> rfl), by (with_reducible repeat (first | apply Kd.N_alloc | apply Kd.N_drewN | apply Kd.N_drew)); exact HO133.out, by repeat (first | (with_reducible first | exact HB.out | apply below_alloc | apply pw_below_drewN | apply below_drew1) | exact HB.out)⟩
      · rw [if_neg c9] at H
        exact absurd H (by simp)
    · rw [if_neg c7] at H
      exact absurd H (by simp)
  · rw [if_neg c6] at H
    exact absurd H (by simp)
end Go.Proofs.Ytlppmamhbpcfcaa.MNet
