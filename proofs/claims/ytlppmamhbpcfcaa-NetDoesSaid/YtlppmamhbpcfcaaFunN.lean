/- A call of a function value that is known, and what the net's little closures answer; no conditions beyond those typed. -/
import Derived.Test.YtlppmamhbpcfcaaMNetx0
import Derived.Lib.SmallJoins
namespace Go.Proofs.Ytlppmamhbpcfcaa.MNet
open Go.RowKit Go.Proofs.YtlppmamhbpcfcaaW.PrintWords Go.Proofs.YtlppmamhbpcfcaaW.PrintLast Go.Proofs.YtlppmamhbpcfcaaW.PrintMore
set_option linter.unusedVariables false
set_option linter.unusedSimpArgs false

/-- A call of a function value in a plain region. -/
theorem goesV_ {P : Program} {ops : Array Oper} {Q : Exit → Act → World → Prop} {rest : List Oper} {oi : Oper} {a : Act} {w : World} (N : Option Tmp) (hd : oi.dst = N) (hg : oi.guard = none) {x : Operand} {f : FuncId} {fn : Func} {ax : Array Operand} {ts : Array TypeId} (hf : P.funcs[f]? = some fn) (hname : (fn.name == "runtime.NumGoroutine") = false) (hb : fn.body.isSome = true) (args cap : Array Value)
    (hop : oi.op = .call { callee := .value x, args := ax, argTypes := ts }) (hx : a.eval x = .func (.func f) #[] cap) (hargs : ax.map a.eval = args)
    (h : Calls P f (args ++ cap) w fun e w' => ∃ v, e = .returned v ∧ wpList P ops Q rest (a.put N v) w') : wpList P ops Q (oi :: rest) a w := by
  refine wpList_plain hg fun K hK => ?_
  have he := enters_ hf hname hb (args ++ cap) w
  have hrun : (execOp a.eval oi).run P w = .ok (.enter f (args ++ cap)) w := by
    unfold execOp
    simp [hop, resolve, Deferred.ofValue, invoke, hx, hargs, he]
  unfold Oper.wp
  rw [hrun, Oper.upon_enter]
  refine h.mono fun e w'' hh => ?_
  obtain ⟨v, rfl, hk⟩ := hh
  subst hd
  exact hK _ _ hk
theorem gate_value {P : Program} {ops : Array Oper} {Q : Exit → Act → World → Prop} {o : Oper} {rest : List Oper} {a : Act} {W : World} (n : Tmp) {ax : Array Operand} {ts : Array TypeId} (_ho : o.op = .call { callee := .value (.tmp n), args := ax, argTypes := ts }) (h : wpList P ops Q (o :: rest) a W) : wpList P ops Q (o :: rest) a W := h
theorem gate_make {P : Program} {ops : Array Oper} {Q : Exit → Act → World → Prop} {o : Oper} {rest : List Oper} {a : Act} {W : World} (t : TypeId) {x y : Operand} (_ho : o.op = .makeSlice t x y) (h : wpList P ops Q (o :: rest) a W) : wpList P ops Q (o :: rest) a W := h
/-- A new row without elements, with room. -/
theorem make_room {P : Program} {ops : Array Oper} {rest : List Oper} {o : Oper} {a : Act} {w : World} {Q : Exit → Act → World → Prop} (hg : o.guard = none) (t e : TypeId) (x y : Operand) (ho : o.op = .makeSlice t x y) (c : Nat) (size bytes : Nat)
    (hx : a.eval x = .int .i64 0) (hy : a.eval y = .int .i64 (c : Int)) (ht : P.underlying t = some (.slice e)) {z : Value} (hi : (P.info? e).map (fun i => (i.zero, i.size, i.bytes)) = some (some z, size, bytes)) (hb : bytes * c ≤ 281474976710656) (hm : c ≤ maxLen)
    (h : ∀ w', w'.ownsRow w.heap.size e size (.slice (some ⟨w.heap.size, 0, none⟩) 0 c) 0 [] → w.grownBy w' none → wpList P ops Q rest (a.put o.dst (.slice (some ⟨w.heap.size, 0, none⟩) 0 c)) w') : wpList P ops Q (o :: rest) a w := by
  obtain ⟨i, hi1, hzz⟩ := Option.map_eq_some_iff.1 hi
  simp only [Prod.mk.injEq] at hzz
  obtain ⟨hz, hs, hbs⟩ := hzz
  obtain ⟨w', hr, ho', hgr⟩ := run_make_own (P := P) w w.heap.size t e i z size ht hi1 hz hs .i64 .i64 c (by rw [hbs]; exact hb) hm (Nat.le_refl _)
  refine wpList_plain hg fun K hK => ?_
  unfold Oper.wp execOp
  simp only [ho, hx, hy, Sem.run_bind, hr, Sem.run_pure, Result.andThen_ok]
  exact hK _ _ (h w' ho' hgr)
theorem cell_drewN {w : World} {p : Addr} {x : Value} (h : w.cell? p = some x) (n : Nat) : (w.drewN n).cell? p = some x := h
/-- A boxed value's block, just made. -/
theorem box_cell {wo w : World} {x : Value} {t : TypeId} (h : wo.alloc (Obj.cells #[x] t) = w) : w.cell? ⟨wo.heap.size, 0, none⟩ = some x := by subst h; exact blk_cell (blk_new wo _) 0
theorem box_below {wo w : World} {o : Obj} (h : wo.alloc o = w) : Below wo.heap.size wo w := by subst h; exact below_alloc (Below.refl _ _) _
theorem box_C {α : Type} {d : Kd α} {wo w : World} {o : Obj} {A : Option Addr} {n : Nat} {l : List α} (h : wo.alloc o = w) (hc : d.C wo A n l) : d.C w A n l := by subst h; exact Kd.C_alloc hc _
/-- No elements yet: a row of one's own, no two of which lead to one block. -/
theorem S_empty {α : Type} {d : Kd α} {e : Nat} {w : World} {base : Nat} {v : Value} (h : w.ownsRow base e d.sz v 0 []) : Kd.S d e w base (fun _ => True) v [] :=
  ⟨fun _ => 0, fun _ _ => trivial, [], h, Reps.none _ _⟩

set_option maxHeartbeats 8000000 in
set_option maxRecDepth 100000 in
theorem at1.calls (n : Int) (A : Option Addr) (len cap : Nat) (p : Addr) (w : World) (hp : w.cell? p = some (.slice A len cap)) :
    Calls Try.prog 77 #[.int .i64 n, .pointer (some p)] w fun e w' => e = .returned (.bool (decide (n < 0 ∨ n ≥ (len : Int)))) ∧ Drawn0 w w' := by
  by_cases h : n < 0
  · have c1 : decide (n < 0) = true := decide_eq_true h
    rw [decide_eq_true (show n < 0 ∨ n ≥ (len : Int) from .inl h)]
    go_enter Try.func77, Try.ntmps77
    go_wp2
    go_ret
    exact ⟨by first | rfl | (simp; done) | (simp [*]; done), by repeat (first | exact Drawn0.refl _ | apply Drawn0.step)⟩
  · have c1 : decide (n < 0) = false := decide_eq_false h
    rw [show decide (n < 0 ∨ n ≥ (len : Int)) = decide (n ≥ (len : Int)) from by rw [decide_eq_decide]; exact or_iff_right h]
    go_enter Try.func77, Try.ntmps77
    go_wp2
    go_ret
    exact ⟨by first | rfl | (simp; done) | (simp [*]; done), by repeat (first | exact Drawn0.refl _ | apply Drawn0.step)⟩
theorem lit_F {w w8 : World} {y : List Int} (h : w.alloc (Obj.cells #[.int .u8 97] 5 (1, 2)) = w8) (hy : y = [97]) : Kd.F (Kd.int .u8) w8 (fun _ => True) (some ⟨w.heap.size, 0, none⟩) y.length y := by
  subst hy
  intro W' hW
  have hb : W'.heap[w.heap.size]? = some (Obj.cells #[.int .u8 97] 5 (1, 2)) := by
    rw [hW _ trivial (by subst h; exact blk_lt (blk_new w _)), ← h]
    exact blk_new w _
  refine ⟨rfl, by decide, fun _ => ⟨_, rfl, fun j p hj => ?_⟩⟩
  cases j with
  | zero =>
    simp at hj
    subst hj
    refine ⟨[.int .u8 97], rfl, rfl, fun i u hu => ?_⟩
    cases i with
    | zero =>
      simp at hu
      subst hu
      exact (Go.Joins.cell_of_block hb 0).trans rfl
    | succ i => simp at hu
  | succ j => simp at hj
theorem lit_FK {w8 : World} {g : Nat} {y : List Int} (hF : Kd.F (Kd.int .u8) w8 (fun _ => True) (some ⟨g, 0, none⟩) y.length y) (hy : y = [97]) : Kd.FK k40 w8 (fun _ => True) (⟨1, y⟩ : S40) [.int .i64 1, .slice (some ⟨g, 0, none⟩) 1 1] := by
  have h := k40_mkF (c1 := 1) _ _ (⟨1, y⟩ : S40) (show y.length ≤ 1 by rw [hy]; decide) hF
  rw [show y.length = 1 by rw [hy]; rfl] at h
  exact h
end Go.Proofs.Ytlppmamhbpcfcaa.MNet
