/- slices.Delete of one thing underway, out of a row of the call's own: the row without it, in place; condition: there is such a place. -/
import Derived.Test.YtlppmamhbpcfcaaFunN
namespace Go.Proofs.Ytlppmamhbpcfcaa.MNet
open Go.RowKit Go.Proofs.YtlppmamhbpcfcaaW.PrintWords Go.Proofs.YtlppmamhbpcfcaaW.PrintLast Go.Proofs.YtlppmamhbpcfcaaW.PrintMore
set_option linter.unusedVariables false
set_option linter.unusedSimpArgs false

theorem zero40 (w : World) : (zeroValue 40).run Try.prog w = .ok (.agg #[.int .i64 0, .slice none 0 0]) w := by
  obtain ⟨i, hi, hz⟩ := Option.map_eq_some_iff.1 info40
  simp only [Prod.mk.injEq] at hz
  simp [zeroValue, typeInfo, hi, hz.1]
theorem clear_gram (ty : TypeId) (w : World) (g o c : Nat) (cur : Array Value) (h : w.heap[g]? = some (.cells cur 40 (0, 0))) (ho : o + 2 ≤ cur.size) :
    (Builtin.clear_ #[33] ty #[.slice (some ⟨g, o, none⟩) 1 c]).run Try.prog w = .ok (.tuple #[]) (w.setRow g (cur.toList.take o ++ ([.int .i64 0, .slice none 0 0] : List Value) ++ cur.toList.drop (o + 2)).toArray) := by
  have hst := run_storeCells_at (P := Try.prog) g o 40 [.int .i64 0, .slice none 0 0] 0 cur w h (by simp; omega) (by intro v hv; simp at hv; rcases hv with rfl | rfl <;> rfl)
  have hzc : (Builtin.zeroCells (Value.agg #[.int .i64 0, .slice none 0 0]).cells 1).toList = [.int .i64 0, .slice none 0 0] := by kernel_rfl
  simp only [Nat.add_zero] at hst
  simp [Builtin.clear_, run_underlying Try.underlying33, zero40, hzc, hst]
theorem World.grownBy.trans' {a b c : World} {g : Nat} (h : a.grownBy b (some g)) (k : b.grownBy c (some g)) : a.grownBy c (some g) :=
  ⟨k.os.trans h.os, k.tape.trans h.tape, k.output.trans h.output, Nat.le_trans h.size k.size, fun i hi hne => (k.block i (Nat.lt_of_lt_of_le hi h.size) hne).trans (h.block i hi hne)⟩
theorem grown_setRow (w : World) (g : Nat) (cs : Array Value) : w.grownBy (w.setRow g cs) (some g) :=
  ⟨rfl, rfl, rfl, Nat.le_of_eq (setRow_size w g cs).symm, fun k _ hk => setRow_other w g k cs (fun e => hk (by rw [e]))⟩
/-- Cells behind a row's end are written: the row is as it was. -/
theorem N_tail {α : Type} {d : Kd α} {e base g n cap : Nat} {ok : Nat → Prop} {w : World} {xs : List α} {cur cur' : Array Value} (h : Kd.N d e w base ok (.slice (some ⟨g, 0, none⟩) n cap) xs) (hh : w.heap[g]? = some (.cells cur e (0, 0)))
    (hs : cur'.size = cur.size) (ht : cur'.toList.take (n * d.sz) = cur.toList.take (n * d.sz)) : Kd.N d e (w.setRow g cur') base ok (.slice (some ⟨g, 0, none⟩) n cap) xs := by
  obtain ⟨h0, rows, hl, ⟨h1, inner, ⟨ho1, ho2⟩, hr⟩, hf⟩ := h
  have hg := grown_setRow w g cur'
  refine ⟨h0, rows, hl, ⟨h1, inner, ⟨ho1, ?_⟩, hr⟩, fun j x c hx hc => Kd.FK_step (hf j x c hx hc) (fun k hk hlt => hg.block k hlt (fun he => hk.2 (by rw [he]; rfl)))⟩
  rcases ho2 with ⟨hv, _⟩ | ⟨g', cap', cur0, hv, hb, hh0, hn, hm, hc, hti⟩
  · cases hv
  · injection hv with ha hn0 hc0
    injection ha with ha
    injection ha with hg0
    subst hg0 hc0
    rw [hh] at hh0
    injection hh0 with hh0
    injection hh0 with hh0
    subst hh0
    refine .inr ⟨_, _, cur', by rw [hn0], hb, setRow_heap w _ cur cur' e (0, 0) hh, hn, hm, by rw [hs, hc], ?_⟩
    rw [← hn0]
    have hsz : (Kd.raw d.sz).sz = d.sz := rfl
    rw [hsz] at hti ⊢
    rw [← hn0] at hti
    rw [ht, hti]
theorem N_head {α : Type} {d : Kd α} {e base n cap : Nat} {ok : Nat → Prop} {w : World} {xs : List α} {ad : Addr} (h : Kd.N d e w base ok (.slice (some ad) n cap) xs) : ∃ g, ad = ⟨g, 0, none⟩ := by
  obtain ⟨_, rows, _, hR, _⟩ := h
  exact Kd.R_head hR
theorem N_cells {α : Type} {d : Kd α} {e base g n cap : Nat} {ok : Nat → Prop} {w : World} {xs : List α} (h : Kd.N d e w base ok (.slice (some ⟨g, 0, none⟩) n cap) xs) : ∃ cur, w.heap[g]? = some (.cells cur e (0, 0)) ∧ cur.size = cap * d.sz ∧ n ≤ cap ∧ cap ≤ maxLen := by
  obtain ⟨h0, rows, hl, ⟨h1, inner, ⟨ho1, ho2⟩, hr⟩, hf⟩ := h
  rcases ho2 with ⟨hv, _⟩ | ⟨g', cap', cur0, hv, hb, hh0, hn, hm, hc, hti⟩
  · cases hv
  · injection hv with ha hn0 hc0
    injection ha with ha
    injection ha with hg0
    subst hg0 hc0
    exact ⟨cur0, hh0, hc, by omega, hm⟩
set_option maxHeartbeats 8000000 in
set_option maxRecDepth 100000 in
theorem net_Delete.calls {base g n c : Nat} {ok : Nat → Prop} {xs : List S40} (k : Nat) (w : World) (hO : Kd.N k40 40 w base ok (.slice (some ⟨g, 0, none⟩) n c) xs) (hk : k < n) (hb : base ≤ w.heap.size) :
    Calls Try.prog 61 #[.slice (some ⟨g, 0, none⟩) n c, .int .i64 (k : Int), .int .i64 ((k : Int) + 1)] w fun e w' => e = .returned (.slice (some ⟨g, 0, none⟩) (n - 1) c) ∧ Kd.N k40 40 w' base ok (.slice (some ⟨g, 0, none⟩) (n - 1) c) (xs.eraseIdx k) ∧ Below base w w' ∧ w.grownBy w' (some g) := by
  obtain ⟨_, _, _, hnc, hcm⟩ := N_cells hO
  obtain ⟨i0, hi0, _, hsz0, _⟩ := info_parts info40
  have hel : Try.prog.elem 33 = 40 := by simp [Program.elem, Try.underlying33]
  have hu33 : Try.prog.underlying 33 = some (.slice (Try.prog.elem 33)) := by rw [hel]; exact Try.underlying33
  have hV1 : ∀ W : World, (Instr.slice 33 (.slice (some ⟨g, 0, none⟩) n c) (some (.int .i64 (k : Int))) (some (.int .i64 ((k : Int) + 1))) (some (.int .i64 (n : Int)))).run Try.prog W = .ok (sliced (some ⟨g, 0, none⟩) k (k + 1) n 2) W := by
    intro W
    rw [run_slice_lhm W 33 (some ⟨g, 0, none⟩) n c hu33 .i64 .i64 .i64 (k : Int) ((k : Int) + 1) (n : Int) (by omega) (by omega) (by omega) (by omega), hel, show ((k : Int) + 1).toNat = k + 1 by omega, Int.toNat_natCast, Int.toNat_natCast]
    simp [sizeOf, typeInfo, hi0, hsz0, Result.andThen]
  obtain ⟨V1, hV1e⟩ : ∃ V1, V1 = sliced (some ⟨g, 0, none⟩) k (k + 1) n 2 := ⟨_, rfl⟩
  rw [← hV1e] at hV1
  have hne : (((k : Int)) == ((k : Int) + 1)) = false := by rw [beq_eq_false_iff_ne]; omega
  have hcutA := cut_to (P := Try.prog) 33 40 .i64 Try.underlying33 hi0 (some ⟨g, 0, none⟩) n c (k : Int) (by omega) (by omega) hnc
  have hcutB := cut_from (P := Try.prog) 33 40 .i64 Try.underlying33 hi0 2 hsz0 (some ⟨g, 0, none⟩) n c ((k : Int) + 1) (by omega) (by omega)
  have hcutC : ∀ W : World, (Instr.slice 33 (.slice (some ⟨g, 0, none⟩) (n - 1) c) (some (.int .i64 ((n - 1 : Nat) : Int))) (some (.int .i64 (n : Int))) none).run Try.prog W = .ok (.slice (some ⟨g, (n - 1) * 2, none⟩) 1 (c - (n - 1))) W := by
    intro W
    rw [run_slice_lh W 33 (some ⟨g, 0, none⟩) (n - 1) c hu33 .i64 .i64 ((n - 1 : Nat) : Int) (n : Int) (by omega) (by omega) (by omega), hel]
    have h1 : ¬ c = n - 1 := by omega
    have h2 : n - (n - 1) = 1 := by omega
    have h3 : (⟨g, 0, none⟩ : Addr).add ((n - 1) * 2) = ⟨g, (n - 1) * 2, none⟩ := by unfold Addr.add; split <;> simp_all
    simp [sizeOf, typeInfo, hi0, hsz0, sliced, Result.andThen, h1, h2, h3]
  obtain ⟨VB, hVB⟩ : ∃ VB : Option Addr, VB = (if c = ((k : Int) + 1).toNat then some ⟨g, 0, none⟩ else (some (⟨g, 0, none⟩ : Addr)).map (·.add (((k : Int) + 1).toNat * 2))) := ⟨_, rfl⟩
  rw [← hVB] at hcutB
  rw [show ((k : Int) + 1).toNat = k + 1 by omega] at hcutB hVB
  rw [Int.toNat_natCast] at hcutA
  have HO := Aside0.mk hO
  have HVB := Aside0.mk hVB
  have HK := Aside0.mk hk
  have HBS := Aside0.mk hb
  have HNC := Aside0.mk hnc
  clear hV1e hO hVB hnc hcm hel hu33 hk hb
  go_enter Try.func61, Try.ntmps61
  try go_wp2
  generalize hw1_ : w.drew = w1
  have HO1 : Aside0 (Kd.N k40 40 w1 base ok (.slice (some ⟨g, 0, none⟩) n c) xs) := ⟨by subst hw1_; exact Kd.N_drew HO.out⟩
  have HB1 : Aside0 (Below base w w1) := ⟨by subst hw1_; exact below_drew (Below.refl _ _)⟩
  have HG1 : Aside0 (w.grownBy w1 (some g)) := ⟨by subst hw1_; exact grown_of_below (below_drew (Below.refl _ _)) _⟩
  have HS1 : Aside0 (base ≤ w1.heap.size) := ⟨Nat.le_trans HBS.out HB1.out.size⟩
  refine start_ (n := 8) (S := fun _ => True) (ds := []) #[false, false, false, false, false, false, false, false] (by kernel_rfl) rfl rfl trivial (fun hHeld => ?_)
  rw [hw1_]
  clear hHeld
  refine pure_ (i := 0) (N := some 20) (v := ?_) (a' := ?_) #[true, false, false, false, false, false, false, false] rfl rfl (by kernel_rfl) (fun _ _ _ h => h) (Or.inl ⟨by rfl, ?_⟩) ?_ ?_
  rotate_left
  · intro w'
    go_simp
    with_reducible rfl
  rotate_left
  · simp only [Act.put, List.setIfInBounds_toArray, List.set_cons_zero, List.set_cons_succ, i64_w, i32_w]
    rfl
  refine pure_ (i := 1) (N := some 21) (v := ?_) (a' := ?_) #[true, true, false, false, false, false, false, false] rfl rfl (by kernel_rfl) (fun _ _ _ h => h) (Or.inl ⟨by rfl, ?_⟩) ?_ ?_
  rotate_left
  · intro w'
    go_simp
    with_reducible rfl
  rotate_left
  · simp only [Act.put, List.setIfInBounds_toArray, List.set_cons_zero, List.set_cons_succ, i64_w, i32_w]
    rfl
  refine pure_ (i := 2) (N := some 22) (v := ?_) (a' := ?_) #[true, true, true, false, false, false, false, false] rfl rfl (by kernel_rfl) (fun _ _ _ h => h) (Or.inl ⟨by rfl, ?_⟩) ?_ ?_
  rotate_left
  · intro w'
    go_simp
    with_reducible rfl
  rotate_left
  · simp only [Act.put, List.setIfInBounds_toArray, List.set_cons_zero, List.set_cons_succ, i64_w, i32_w]
    rfl
  refine pure_ (i := 3) (N := some 23) (v := ?_) (a' := ?_) #[true, true, true, true, false, false, false, false] rfl rfl (by kernel_rfl) (fun _ _ _ h => h) (Or.inl ⟨by rfl, ?_⟩) ?_ ?_
  rotate_left
  · intro w'
    go_simp
    with_reducible rfl
  rotate_left
  · simp only [Act.put, List.setIfInBounds_toArray, List.set_cons_zero, List.set_cons_succ, i64_w, i32_w]
    rfl
  refine pure_ (i := 4) (N := some 24) (v := ?_) (a' := ?_) #[true, true, true, true, true, false, false, false] rfl rfl (by kernel_rfl) (fun _ _ _ h => h) (Or.inl ⟨by rfl, ?_⟩) ?_ ?_
  rotate_left
  · intro w'
    go_simp
    with_reducible rfl
  rotate_left
  · simp only [Act.put, List.setIfInBounds_toArray, List.set_cons_zero, List.set_cons_succ, i64_w, i32_w]
    rfl
  refine pure_ (i := 5) (N := some 25) (v := ?_) (a' := ?_) #[true, true, true, true, true, true, false, false] rfl rfl (by kernel_rfl) (fun _ _ _ h => h) (Or.inl ⟨by rfl, ?_⟩) ?_ ?_
  rotate_left
  · intro w'
    go_simp
    with_reducible rfl
  rotate_left
  · simp only [Act.put, List.setIfInBounds_toArray, List.set_cons_zero, List.set_cons_succ, i64_w, i32_w]
    rfl
  refine one_ (i := 6) (N := some 26) #[true, true, true, true, true, true, true, false] rfl rfl (by kernel_rfl) (by decide) (fun K hK => ?_)
  refine Kd.N_delete_step k40 base rfl _ _ 33 40 rfl Try.underlying33 (by kernel_rfl) (g := g) (n := n) (c := c) (k := k) (m := n - (k + 1)) rfl rfl HVB.out rfl HO1.out HK.out HB1.out HS1.out ?_
  intro w2 hN hBd hg
  refine hK.out _ _ trivial (fun hHeld => ?_)
  clear hK K
  refine norm_ (a' := ?_) ?_ ?_
  rotate_left
  · show Act.put _ (some 26) _ = _
    simp only [Act.put, List.setIfInBounds_toArray, List.set_cons_zero, List.set_cons_succ, i64_w, i32_w]
    rfl
  refine pure_ (i := 7) (N := some 0) (v := ?_) (a' := ?_) #[true, true, true, true, true, true, true, true] rfl rfl (by kernel_rfl) (fun _ _ _ h => h) (Or.inl ⟨by rfl, ?_⟩) ?_ ?_
  rotate_left
  · intro w'
    go_simp
    with_reducible rfl
  rotate_left
  · simp only [Act.put, List.setIfInBounds_toArray, List.set_cons_zero, List.set_cons_succ, i64_w, i32_w]
    rfl
  refine done_ (by kernel_rfl) ?_
  obtain ⟨cur, hcur, hcs, _, _⟩ := N_cells hN
  have hsz2 : k40.sz = 2 := rfl
  rw [hsz2] at hcs
  have hroom_ : (n - 1) * 2 + 2 ≤ cur.size := by
    have h1 := HK.out
    have h2 := HNC.out
    omega
  have hclr_ := clear_gram 0 w2 g ((n - 1) * 2) (c - (n - 1)) cur hcur hroom_
  have HN := Aside0.mk hN
  have HBd := Aside0.mk hBd
  have HGd := Aside0.mk hg
  have HCUR := Aside0.mk hcur
  have HCS := Aside0.mk hcs
  have HRM := Aside0.mk hroom_
  clear hN hBd hg hcur hcs hroom_ hHeld hsz2
  go_wp2
  go_ret
  refine ⟨rfl, N_tail HN.out HCUR.out ?_ ?_, ?_, ?_⟩
  · have h1 := HRM.out
    simp
    omega
  · have h1 := HRM.out
    show (_ : List Value).take ((n - 1) * 2) = _
    simp only [List.append_assoc]
    rw [List.take_append_of_le_length (by simp; omega), List.take_take, Nat.min_self]
    rfl
  · exact pw_below_grown HBd.out (some g) (Nat.le_trans HBS.out HBd.out.size) (grown_setRow _ _ _) (fun k hk => by injection hk with hk; rw [← hk]; exact Kd.N_base HN.out g rfl)
  · have h1 := World.grownBy.trans' HG1.out HGd.out
    exact World.grownBy.trans' h1 (grown_setRow _ _ _)
end Go.Proofs.Ytlppmamhbpcfcaa.MNet
