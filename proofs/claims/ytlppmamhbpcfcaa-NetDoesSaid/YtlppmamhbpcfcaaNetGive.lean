/- append(out[:k:k], out[k+1:]...) of a row of the call's own: the row without its element k, to be read; condition: there is such an element and the row is no longer than 2^41. -/
import Derived.Test.YtlppmamhbpcfcaaNetDel
namespace Go.Proofs.Ytlppmamhbpcfcaa.MNet
open Go.RowKit Go.Proofs.YtlppmamhbpcfcaaW.PrintWords Go.Proofs.YtlppmamhbpcfcaaW.PrintLast Go.Proofs.YtlppmamhbpcfcaaW.PrintMore
set_option linter.unusedVariables false
set_option linter.unusedSimpArgs false

/-- A row that is only read, in a block made since. -/
def NV {α : Type} (d : Kd α) (e : Nat) (w : World) (base : Nat) (ok : Nat → Prop) (v : Value) (xs : List α) : Prop :=
  (∀ k, v.ownBlock = some k → ok k ∧ base ≤ k ∧ k < w.heap.size) ∧ Kd.V d e w base ok v xs
section
variable {α : Type} {d : Kd α} {e base base' : Nat} {ok ok' : Nat → Prop} {w w1 W : World} {v u : Value} {xs : List α}
theorem NV_mono (h : NV d e w base ok v xs) (hok : ∀ k, ok k → ok' k) : NV d e w base ok' v xs := ⟨fun k hk => ⟨hok k (h.1 k hk).1, (h.1 k hk).2⟩, Kd.V_mono h.2 hok⟩
theorem NV_lower (h : NV d e w base ok v xs) (hb : base' ≤ base) : NV d e w base' ok v xs := ⟨fun k hk => ⟨(h.1 k hk).1, Nat.le_trans hb (h.1 k hk).2.1, (h.1 k hk).2.2⟩, h.2⟩
theorem NV_base (h : NV d e w base ok v xs) : ∀ k, v.ownBlock = some k → base ≤ k := fun k hk => (h.1 k hk).2.1
theorem NV_lt (h : NV d e w base ok v xs) : ∀ k, v.ownBlock = some k → k < w.heap.size := fun k hk => (h.1 k hk).2.2
theorem NV_step (h : NV d e w base ok v xs) (hs : w.heap.size ≤ w1.heap.size) (hm : ∀ k, ok k → k < w.heap.size → w1.heap[k]? = w.heap[k]?) : NV d e w1 base ok v xs := ⟨fun k hk => ⟨(h.1 k hk).1, (h.1 k hk).2.1, Nat.lt_of_lt_of_le (h.1 k hk).2.2 hs⟩, Kd.V_step h.2 hm⟩
theorem NV_below (h : NV d e w base ok v xs) (hb : Below w.heap.size w w1) : NV d e w1 base ok v xs := NV_step h hb.size (fun k _ hk => hb.block k hk)
theorem NV_alloc (h : NV d e w base ok v xs) (o : Obj) : NV d e (w.alloc o) base ok v xs := NV_below h (below_alloc (Below.refl _ _) o)
theorem NV_drew (h : NV d e w base ok v xs) : NV d e w.drew base ok v xs := NV_below h (below_drew (Below.refl _ _))
theorem NV_drewN (h : NV d e w base ok v xs) (m : Nat) : NV d e (w.drewN m) base ok v xs := NV_below h (pw_below_drewN (Below.refl _ _) m)
theorem NV_far (h : NV d e w base ok v xs) {p : Addr} (hok : ∀ k, ok k → k ≠ p.block) (u : Value) : NV d e (w.setCell p u) base ok v xs :=
  ⟨fun k hk => ⟨(h.1 k hk).1, (h.1 k hk).2.1, Nat.lt_of_lt_of_le (h.1 k hk).2.2 (show w.heap.size ≤ (w.setCell p u).heap.size from (Below.setCell (Below.refl 0 w) (Nat.zero_le _) _).size)⟩, Kd.V_far h.2 hok u⟩
theorem NV_bound (h : NV d e w base ok v xs) : NV d e w base (fun k => ok k ∧ k < w.heap.size) v xs := ⟨fun k hk => ⟨⟨(h.1 k hk).1, (h.1 k hk).2.2⟩, (h.1 k hk).2⟩, Kd.V_bound h.2⟩
theorem NV_elder' (h : NV d e W base ok v xs) (hbase : ∀ k, u.ownBlock = some k → W.heap.size ≤ k) (hb : Below W.heap.size W w1) : NV d e w1 base (fun k => ok k ∧ some k ≠ u.ownBlock) v xs :=
  NV_mono (NV_below (NV_bound h) hb) (fun k hk => ⟨hk.1, fun he => by have := hbase k he.symm; have := hk.2; omega⟩)
theorem NV_elderB (h : NV d e w base ok v xs) (a : Nat) (ha : w.heap.size ≤ a) : NV d e w base (fun k => ok k ∧ k ≠ a) v xs := NV_mono (NV_bound h) (fun k hk => ⟨hk.1, by have := hk.2; omega⟩)
theorem NV_slice (h : NV d e w base ok v xs) : ∃ A c, v = .slice A xs.length c := Kd.V_slice h.2
theorem NV_reads' {A : Option Addr} {n c : Nat} (h : NV d e w base ok (.slice A n c) xs) : n = xs.length ∧ n ≤ c ∧ d.C w A xs.length xs := Kd.V_reads' h.2
theorem NV_nil (d : Kd α) (e : Nat) (w : World) (base : Nat) (ok : Nat → Prop) : NV d e w base ok (.slice none 0 0) [] := ⟨fun k hk => by simp [Value.ownBlock] at hk, Kd.V_nil _ _ _ _ _⟩
theorem N_NV (h : Kd.N d e w base ok v xs) : NV d e w base ok v xs := by
  obtain ⟨A, c, rfl⟩ := Kd.N_slice h
  exact ⟨fun k hk => ⟨h.1 k hk, Kd.N_base h k hk, Kd.N_lt h k hk⟩, Kd.V_mk (Kd.N_reads' h).2.1 (Kd.N_F h)⟩
end

theorem give_append {base g n c : Nat} {ok : Nat → Prop} {xs : List S40} {w : World} {VB : Option Addr} (k : Nat) (hVB : VB = (if c = k + 1 then some ⟨g, 0, none⟩ else (some ⟨g, 0, none⟩ : Option Addr).map (·.add ((k + 1) * 2)))) (hO : Kd.N k40 40 w base ok (.slice (some ⟨g, 0, none⟩) n c) xs) (hk : k < n) (hb : base ≤ w.heap.size) (hfresh : ∀ k, w.heap.size ≤ k → ok k) (hn : n < 2199023255552) :
    ∃ v w', (Builtin.append_ #[33, 33] 33 #[.slice (some ⟨g, 0, none⟩) k k, .slice VB (n - (k + 1)) (c - (k + 1))]).run Try.prog w = .ok v w' ∧
      NV k40 40 w' base ok v (xs.eraseIdx k) ∧ Below w.heap.size w w' ∧ ∀ b, v.ownBlock = some b → b = g ∨ w.heap.size ≤ b := by
  have hVB2 : VB = (if c = k + 1 then some ⟨g, 0, none⟩ else some ⟨g, (k + 1) * 2, none⟩) := by
    rw [hVB]
    split
    · rfl
    · show some ((⟨g, 0, none⟩ : Addr).add ((k + 1) * 2)) = _
      rw [add_at, Nat.zero_add]
  clear hVB
  subst hVB2
  have hF := Kd.N_F hO
  obtain ⟨h0, rows, hl, ⟨h1, inner, ⟨ho1, ho2⟩, hr⟩, hf⟩ := hO
  obtain ⟨i0, hi0, hz0, hsz0, hby0⟩ := info_parts info40
  rcases ho2 with ⟨hv, _⟩ | ⟨g', cap', cur, hv, hg, hh, hnc, hm, hc, hti⟩
  · cases hv
  · injection hv with ha hn0 hc0
    injection ha with ha
    injection ha with hg0
    subst hg0 hc0
    have hln : rows.length = n := hn0.symm
    have hxn : xs.length = n := hl.symm.trans hln
    have hsz : (Kd.raw k40.sz).sz = 2 := rfl
    rw [hsz] at hc hti hr ho1
    have hold : ∀ j v, (inner.take (k * 2))[j]? = some v → w.cell? ((⟨g, 0, none⟩ : Addr).add j) = some v := by
      intro j v hj
      rw [List.getElem?_take] at hj
      split at hj
      · rw [add_at, Nat.zero_add, blk_cell hh, ← Array.getElem?_toList]
        rw [← hti, List.getElem?_take] at hj
        split at hj
        · exact hj
        · cases hj
      · cases hj
    by_cases hlast : n = k + 1
    · refine ⟨.slice (some ⟨g, 0, none⟩) k k, w, ?_, ?_, Below.refl _ _, fun b hb' => .inl (by simpa [Value.ownBlock] using hb'.symm)⟩
      · have he : n - (k + 1) = 0 := by omega
        have hself : w.setRow g cur = w := setRow_self w g cur 40 (0, 0) hh
        rw [he]
        by_cases hck : c = k + 1
        · rw [if_pos hck]
          have h := run_append_room (P := Try.prog) w 33 33 40 i0 Try.underlying33 hi0 g k k cur hh ⟨g, 0, none⟩ 0 (c - (k + 1)) [] (by simp) (by intro j u hu; simp at hu) (by intro u hu; simp at hu) (by omega) (by rw [hsz0]; simp only [List.length_nil]; omega)
          simpa [hself] using h
        · rw [if_neg hck]
          have h := run_append_room (P := Try.prog) w 33 33 40 i0 Try.underlying33 hi0 g k k cur hh ⟨g, (k + 1) * 2, none⟩ 0 (c - (k + 1)) [] (by simp) (by intro j u hu; simp at hu) (by intro u hu; simp at hu) (by omega) (by rw [hsz0]; simp only [List.length_nil]; omega)
          simpa [hself] using h
      · have ht : xs.eraseIdx k = xs.take k := by
          rw [List.eraseIdx_eq_take_drop_succ, List.drop_eq_nil_of_le (by omega), List.append_nil]
        rw [ht]
        refine ⟨fun b hb' => ⟨h0 b (by simpa [Value.ownBlock] using hb'), ?_⟩, ?_⟩
        · have : g = b := by simpa [Value.ownBlock] using hb'
          subst this
          exact ⟨hg, blk_lt hh⟩
        · have hlt : (xs.take k).length = k := by rw [List.length_take]; omega
          have h := Kd.F_take (m := k) (by rw [hxn]; exact hF) (by omega)
          have h2 := Kd.V_mk (e := 40) (base := base) (c := k) (by omega) h
          rw [hlt] at h2
          exact h2
    · have hck : ¬ c = k + 1 := by omega
      have hnew : ∀ j v, (inner.drop ((k + 1) * 2))[j]? = some v → w.cell? ((⟨g, (k + 1) * 2, none⟩ : Addr).add j) = some v := by
        intro j v hj
        rw [List.getElem?_drop] at hj
        rw [add_at, blk_cell hh, ← Array.getElem?_toList]
        rw [← hti, List.getElem?_take] at hj
        split at hj
        · exact hj
        · cases hj
      have hln2 : (inner.take (k * 2)).length = k * 2 := by rw [List.length_take, ho1]; omega
      have hln3 : (inner.drop ((k + 1) * 2)).length = (n - (k + 1)) * 2 := by rw [List.length_drop, ho1]; omega
      have hap := run_append_grow (P := Try.prog) w 33 33 40 i0 _ Try.underlying33 hi0 hz0 ⟨g, 0, none⟩ k k (inner.take (k * 2)) (by rw [hln2, hsz0]) hold ⟨g, (k + 1) * 2, none⟩ (n - (k + 1)) (c - (k + 1)) (inner.drop ((k + 1) * 2)) (by rw [hln3, hsz0]) hnew (by omega) (by omega)
        (growslice_fits (by omega) (by rw [hby0]; omega))
      rw [if_neg hck]
      refine ⟨_, _, hap, ?_, below_alloc (below_drew (Below.refl _ _)) _, fun b hb' => .inr (Nat.le_of_eq (by simpa [Value.ownBlock] using hb'))⟩
      have hlen : k + (n - (k + 1)) = n - 1 := by omega
      rw [hlen]
      generalize hcp : grownCap w (n - 1) k 40 = cp
      have hcpge : n - 1 ≤ cp := by rw [← hcp]; exact grownCap_ge w (n - 1) k 40
      have hcple : cp ≤ maxLen := by rw [← hcp]; exact grownCap_le_maxLen w (n - 1) k 40 (by simp only [maxLen]; omega)
      refine N_NV ⟨fun b hb' => ?_, rows.eraseIdx k, by rw [List.length_eraseIdx, List.length_eraseIdx, hl], ⟨fun b hb' => hb'.symm, inner.take (k * 2) ++ inner.drop ((k + 1) * 2), ⟨?_, .inr ⟨w.heap.size, cp, _, ?_, hb, heap_alloc_new w.drew _, ?_, hcple, ?_, ?_⟩⟩, ?_⟩, fun j x cs hx hcs => ?_⟩
      · have : w.heap.size = b := by simpa [Value.ownBlock] using hb'
        exact hfresh b (by omega)
      · rw [List.length_append, hln2, hln3, List.length_eraseIdx, hsz]
        split <;> omega
      · rw [List.length_eraseIdx]
        split
        · rw [hln]
        · omega
      · rw [List.length_eraseIdx]
        split <;> omega
      · rw [Array.size_append, Array.size_append, size_zeroCells, List.size_toArray, List.size_toArray, hln2, hln3, hsz]
        show k * 2 + (n - (k + 1)) * 2 + (cp - (n - 1)) * 2 = cp * 2
        omega
      · have hle : (rows.eraseIdx k).length = n - 1 := by rw [List.length_eraseIdx]; split <;> omega
        rw [hle, hsz, Array.toList_append, Array.toList_append, List.take_append_of_le_length (by simp only [List.length_append, hln2, hln3]; omega), List.take_of_length_le (by simp only [List.length_append, hln2, hln3]; omega)]
      · rw [List.eraseIdx_eq_take_drop_succ]
        exact Kd.reps_append (Kd.reps_take hr (by omega)) (Kd.reps_drop hr)
      · rw [List.getElem?_eraseIdx] at hx hcs
        have hold2 : ∀ b : Nat, b < w.heap.size → (w.drew.alloc (Obj.cells ((inner.take (k * 2)).toArray ++ (inner.drop ((k + 1) * 2)).toArray ++ Builtin.zeroCells (Value.agg #[.int .i64 0, .slice none 0 0]).cells (cp - (n - 1))) 40)).heap[b]? = w.heap[b]? := fun b hb' => heap_alloc_old w.drew _ hb'
        have key : ∀ j', xs[j']? = some x → rows[j']? = some cs → Kd.FK k40 _ (fun b => ok b ∧ some b ≠ (Value.slice (some ⟨w.heap.size, 0, none⟩) (n - 1) cp).ownBlock) x cs := fun j' h1 h2 =>
          Kd.FK_mono (Kd.FK_step (Kd.FK_bound (hf j' x cs h1 h2)) (fun b hb' hlt => hold2 b hlt)) (fun b hb' => ⟨hb'.1.1, fun he => by
            have : b = w.heap.size := by simpa [Value.ownBlock] using he
            have := hb'.2
            omega⟩)
        split at hx
        · rename_i hjk
          rw [if_pos hjk] at hcs
          exact key _ hx hcs
        · rename_i hjk
          rw [if_neg hjk] at hcs
          exact key _ hx hcs
theorem cut_max (g n c k : Nat) (hk : k ≤ c) (W : World) : (Instr.slice 33 (.slice (some ⟨g, 0, none⟩) n c) none (some (.int .i64 (k : Int))) (some (.int .i64 (k : Int)))).run Try.prog W = .ok (.slice (some ⟨g, 0, none⟩) k k) W := by
  obtain ⟨i0, hi0, hz0, hsz0, hby0⟩ := info_parts info40
  have hel : Try.prog.elem 33 = 40 := by simp [Program.elem, Try.underlying33]
  have hu33 : Try.prog.underlying 33 = some (.slice (Try.prog.elem 33)) := by rw [hel]; exact Try.underlying33
  rw [run_slice_hm W 33 (some ⟨g, 0, none⟩) n c hu33 .i64 .i64 (k : Int) (k : Int) (by omega) (by omega) (by omega), hel, Int.toNat_natCast]
  have h0 : (⟨g, 0, none⟩ : Addr).add 0 = ⟨g, 0, none⟩ := by rw [add_at]
  simp [sizeOf, typeInfo, hi0, hsz0, Result.andThen, sliced, h0]
theorem cut_rest (g n c k : Nat) (hk : k < n) (W : World) : (Instr.slice 33 (.slice (some ⟨g, 0, none⟩) n c) (some (.int .i64 ((k : Int) + 1))) none none).run Try.prog W = .ok (.slice (if c = k + 1 then some ⟨g, 0, none⟩ else (some ⟨g, 0, none⟩ : Option Addr).map (·.add ((k + 1) * 2))) (n - (k + 1)) (c - (k + 1))) W := by
  obtain ⟨i0, hi0, hz0, hsz0, hby0⟩ := info_parts info40
  have h := cut_from (P := Try.prog) 33 40 .i64 Try.underlying33 hi0 2 hsz0 (some ⟨g, 0, none⟩) n c ((k : Int) + 1) (by omega) (by omega) W
  rw [show ((k : Int) + 1).toNat = k + 1 by omega] at h
  exact h
/-- append in a drawn region, by what it was shown to do. -/
theorem append_ {P : Program} {ops : Array Oper} {Q : Exit → Act → World → Prop} {oi : Oper} {N : Option Tmp} {a : Act} {w w1 : World} {K : Act → World → Prop} {s x : Operand} {t : TypeId} {v u v1 : Value} (hw : Region.wanted oi (yielded ops a.tmps) = true) (hN : oi.dst = N)
    (ho : oi.op = .call { callee := .builtin .append, args := #[s, x], argTypes := #[t, t] }) (hs : a.eval s = v) (hx : a.eval x = u) (hr : (Builtin.append_ #[t, t] oi.type #[v, u]).run P w = .ok v1 w1) (h : K (a.put N v1) w1) :
    if Region.wanted oi (yielded ops a.tmps) = true then Oper.wp P oi a w K Q else K (a.put N undef) w := by
  subst hN
  rw [if_pos hw]
  unfold Oper.wp execOp
  simp only [ho, resolve, invoke, builtin, Sem.run_bind, Sem.run_pure, Result.andThen_ok, List.map_toArray, List.map_cons, List.map_nil, hs, hx, hr]
  exact h
end Go.Proofs.Ytlppmamhbpcfcaa.MNet
