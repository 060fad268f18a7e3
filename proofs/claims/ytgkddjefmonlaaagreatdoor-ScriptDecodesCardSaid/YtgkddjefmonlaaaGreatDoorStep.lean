/-
  A call of a Go function by its contract, as one step of a region that draws its order.
-/
import Derived.Test.YtgkddjefmonlaaaGreatDoorBase2
namespace Go.Proofs.YtgkddjefmonlaaaGreatDoor
open Go.RowKit

theorem run_enter {P : Program} {f : FuncId} {fn : Func} {c : Code} (hf : P.funcs[f]? = some fn) (hname : (fn.name == "runtime.NumGoroutine") = false) (hb : fn.body = some c) (args : Array Value) (w : World) :
    (callFunc f args).run P w = .ok (.enter f args) w := by
  have h1 : fn.name ≠ "runtime.NumGoroutine" := by simpa using hname
  simp [callFunc, hf, h1, hb]
theorem step_call1 {P : Program} {ops : Array Oper} {o : Oper} {a : Act} {w : World} {K : Act → World → Prop} {Q : Exit → Act → World → Prop} {E : Prop} {f : FuncId} {fn : Func} {c : Code} {R : Ending → World → Prop} {v : Value}
    (hf : P.funcs[f]? = some fn) (hname : (fn.name == "runtime.NumGoroutine") = false) (hb : fn.body = some c) (hgd : o.guard = none) (x : Operand) (t : TypeId)
    (ho : o.op = .call { callee := .value (.func f), args := #[x], argTypes := #[t] }) (hx : a.eval x = v) (hc : Calls P f #[v] w R)
    (hk : ∀ e w', R e w' → ∃ u, e = .returned u ∧ K (a.put o.dst u) w') : if Region.wanted o (yielded ops a.tmps) = true then Oper.wp P o a w K Q else E := by
  have hw : Region.wanted o (yielded ops a.tmps) = true := by simp [Region.wanted, hgd]
  rw [if_pos hw]
  have hm : (execOp a.eval o).run P w = .ok (.enter f #[v]) w := by
    unfold execOp
    have e1 : a.eval (.func f) = .func (.func f) #[] #[] := rfl
    simp only [ho, resolve, invoke, Sem.run_bind, List.map_toArray, List.map_cons, List.map_nil, hx, e1]
    have e2 : (Deferred.ofValue (.func (.func f) #[] #[]) #[v]).run P w = .ok ⟨.fn (.func f) #[], #[v]⟩ w := by
      simp [Deferred.ofValue]
    simp only [e2, Result.andThen_ok, Array.append_empty]
    exact run_enter hf hname hb _ w
  unfold Oper.wp
  rw [hm, Oper.upon_enter]
  refine hc.mono ?_
  intro e w' he
  obtain ⟨u, rfl, hK⟩ := hk e w' he
  exact hK
end Go.Proofs.YtgkddjefmonlaaaGreatDoor
