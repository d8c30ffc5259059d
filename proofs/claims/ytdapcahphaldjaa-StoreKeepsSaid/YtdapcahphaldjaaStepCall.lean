/- A call of a Go function as one step of a region that draws its order. Over any program. -/
import Derived.Test.YtdapcahphaldjaaMem2
import Derived.Deep.RegionLaw
namespace Go.Proofs.Ytdapcahphaldjaa
open Go.RowKit
theorem run_callFunc_enter' {P : Program} {f : FuncId} {fn : Func} {c : Code} (hf : P.funcs[f]? = some fn) (hname : (fn.name == "runtime.NumGoroutine") = false) (hb : fn.body = some c) (args : Array Value) (w : World) :
    (callFunc f args).run P w = .ok (.enter f args) w := by
  have h1 : fn.name ≠ "runtime.NumGoroutine" := by simpa using hname
  simp [callFunc, hf, h1, hb]
theorem step_gocall {P : Program} {ops : Array Oper} {o : Oper} {a : Act} {w : World} {K : Act → World → Prop} {Q : Exit → Act → World → Prop} {E : Prop}
    (hg : o.guard = none) (f : FuncId) {fn : Func} {c : Code} (hf : P.funcs[f]? = some fn) (hname : (fn.name == "runtime.NumGoroutine") = false) (hb : fn.body = some c) (xs : Array Operand) (tys : Array TypeId) (hop : o.op = Op.call { callee := Callee.value (.func f), args := xs, argTypes := tys }) (vs : Array Value) (hv : xs.map a.eval = vs) (W : World) (hW : w = W)
    (h : Calls P f vs W fun e w' => ∃ v, e = .returned v ∧ K (a.put o.dst v) w') :
    if Region.wanted o (yielded ops a.tmps) = true then Oper.wp P o a w K Q else E := by
  have hw : Region.wanted o (yielded ops a.tmps) = true := by simp [Region.wanted, hg]
  rw [if_pos hw]
  subst hW
  unfold Oper.wp
  simp [execOp, hop, resolve, hv, Act.eval, Deferred.ofValue, invoke, run_callFunc_enter' hf hname hb, Oper.upon_enter]
  refine h.mono ?_
  rintro e w' ⟨v, rfl, hk⟩
  exact hk
end Go.Proofs.Ytdapcahphaldjaa
