/- A call of a function value that is known, and what the plane's little closures answer; no conditions beyond those typed. -/
import Derived.Test.YtlppmamhbpcfcaaMPlx0
namespace Go.Proofs.Ytlppmamhbpcfcaa.MPl
open Go.RowKit Go.Proofs.YtlppmamhbpcfcaaW.PrintWords Go.Proofs.YtlppmamhbpcfcaaW.PrintLast Go.Proofs.YtlppmamhbpcfcaaW.PrintMore
set_option linter.unusedVariables false
set_option linter.unusedSimpArgs false

/-- A call of a function value in a plain region. -/
theorem goesV_ {P : Program} {ops : Array Oper} {Q : Exit → Act → World → Prop} {rest : List Oper} {oi : Oper} {a : Act} {w : World} (N : Option Tmp) (hd : oi.dst = N) (hg : oi.guard = none) {x : Operand} {f : FuncId} {fn : Func} {ax : Array Operand} {ts : Array TypeId} (hf : P.funcs[f]? = some fn) (hname : (fn.name == "runtime.NumGoroutine") = false) (hb : fn.body.isSome = true) (args cap : Array Value)
    (hop : oi.op = .call { callee := .value x, args := ax, argTypes := ts }) (hx : a.eval x = .func (.func f) #[] cap) (hargs : ax.map a.eval = args)
    (h : Calls P f (args ++ cap) w fun e w' => ∃ v, e = .returned v ∧ wpList P ops Q rest (a.put N v) w') : wpList P ops Q (oi :: rest) a w := by
  refine wpList_plain hg fun K hK => ?_
  have he := enters_ hf hname hb (args ++ cap) w
  have hrun : (execOp a.eval oi).run P w = .ok (.enter f (args ++ cap)) w := by
    unfold execOp
    simp [hop, resolve, Deferred.ofValue, invoke, hx, hargs, he]
  unfold Oper.wp
  rw [hrun, Oper.upon_enter]
  refine h.mono fun e w'' hh => ?_
  obtain ⟨v, rfl, hk⟩ := hh
  subst hd
  exact hK _ _ hk
theorem gate_value {P : Program} {ops : Array Oper} {Q : Exit → Act → World → Prop} {o : Oper} {rest : List Oper} {a : Act} {W : World} (n : Tmp) {ax : Array Operand} {ts : Array TypeId} (_ho : o.op = .call { callee := .value (.tmp n), args := ax, argTypes := ts }) (h : wpList P ops Q (o :: rest) a W) : wpList P ops Q (o :: rest) a W := h
theorem gate_box {P : Program} {ops : Array Oper} {Q : Exit → Act → World → Prop} {o : Oper} {rest : List Oper} {a : Act} {W : World} (n : Nat) {x : Operand} (_ho : o.op = .box n x) (h : wpList P ops Q (o :: rest) a W) : wpList P ops Q (o :: rest) a W := h

set_option maxHeartbeats 8000000 in
set_option maxRecDepth 100000 in
theorem side1.calls (a b c : Int) (p : Addr) (w : World) (hp : w.cell? p = some (.int .i64 c)) :
    Calls Try.prog 74 #[.int .i64 a, .int .i64 b, .pointer (some p)] w fun e w' => e = .returned (.int .i64 (wrap64 (wrap64 (a * c) + b))) ∧ Drawn0 w w' := by
  go_enter Try.func74, Try.ntmps74
  go_wp2
  go_ret
  exact ⟨by first | rfl | (simp; done) | (simp [*]; done), by repeat (first | exact Drawn0.refl _ | apply Drawn0.step)⟩
set_option maxHeartbeats 8000000 in
set_option maxRecDepth 100000 in
theorem woven1.calls (a b c : Int) (p : Addr) (w : World) (hp : w.cell? p = some (.int .i64 c)) :
    Calls Try.prog 75 #[.int .i64 a, .int .i64 b, .pointer (some p)] w fun e w' => e = .returned (.int .i64 (wrap64 (wrap64 (b * c) + a))) ∧ Drawn0 w w' := by
  go_enter Try.func75, Try.ntmps75
  go_wp2
  go_ret
  exact ⟨by first | rfl | (simp; done) | (simp [*]; done), by repeat (first | exact Drawn0.refl _ | apply Drawn0.step)⟩
set_option maxHeartbeats 8000000 in
set_option maxRecDepth 100000 in
theorem put1.calls (n c j : Int) (p : Addr) (w : World) (hp : w.cell? p = some (.int .i64 c)) (hc : 0 ≤ c) (hj : shr .u64 n c = j) :
    Calls Try.prog 73 #[.int .u64 n, .pointer (some p)] w fun e w' => e = .returned (.bool (j != 0)) ∧ Drawn0 w w' := by
  have hj_ : (n / 2 ^ min c.toNat 64) = j := hj
  have hjz : c ≤ 64 → (n / 2 ^ c.toNat) = j := shr_small hj
  have c1 := eq_true hc
  have c2 : decide (0 ≤ c) = true := decide_eq_true hc
  clear hc
  go_enter Try.func73, Try.ntmps73
  go_wp2
  go_ret
  exact ⟨by first | rfl | (simp; done) | (simp only [← hj] <;> (first | rfl | simp)) | (simp [*]; done), by repeat (first | exact Drawn0.refl _ | apply Drawn0.step)⟩

set_option maxHeartbeats 8000000 in
set_option maxRecDepth 100000 in
theorem side.calls (a0 : Int) (w : World) :
    Calls Try.prog 55 #[.int .i64 a0] w fun e w' => ∃ p : Addr, e = .returned (.func (.func 74) #[] #[.pointer (some p)]) ∧ w'.cell? p = some (.int .i64 a0) ∧ Below w.heap.size w w' := by
  have hmf : ∀ (fn : Fn) (first cap : Array Value) (w : World), (Instr.makeFunc fn first cap).run Try.prog w = .ok (.func fn first cap) w := fun _ _ _ _ => rfl
  go_enter Try.func55, Try.ntmps55
  go_wp2
  go_ret
  exact ⟨_, rfl, blk_cell (blk_new w _) 0, by repeat (first | exact Below.refl _ _ | apply below_alloc | apply pw_below_drewN | apply below_drew1)⟩
set_option maxHeartbeats 8000000 in
set_option maxRecDepth 100000 in
theorem woven.calls (a0 : Int) (w : World) :
    Calls Try.prog 58 #[.int .i64 a0] w fun e w' => ∃ p : Addr, e = .returned (.func (.func 75) #[] #[.pointer (some p)]) ∧ w'.cell? p = some (.int .i64 a0) ∧ Below w.heap.size w w' := by
  have hmf : ∀ (fn : Fn) (first cap : Array Value) (w : World), (Instr.makeFunc fn first cap).run Try.prog w = .ok (.func fn first cap) w := fun _ _ _ _ => rfl
  go_enter Try.func58, Try.ntmps58
  go_wp2
  go_ret
  exact ⟨_, rfl, blk_cell (blk_new w _) 0, by repeat (first | exact Below.refl _ _ | apply below_alloc | apply pw_below_drewN | apply below_drew1)⟩
theorem cell_drewN {w : World} {p : Addr} {x : Value} (h : w.cell? p = some x) (n : Nat) : (w.drewN n).cell? p = some x := h
end Go.Proofs.Ytlppmamhbpcfcaa.MPl
