/- Memory's example. No condition. -/
import Derived.Test.YtocjmepmbglhaaaWdLaws2
import Derived.Test.YtocjmepmbglhaaaMemMath
namespace Go.Ev
open Go.Proofs
set_option linter.unusedVariables false
set_option linter.unusedSimpArgs false
set_option maxRecDepth 100000
theorem awake3_eq : (evQ Try.prog [] 100000 (Task.call 18) [] h0 [] fun x r x_1 x_2 => r.getD 0 undef = Value.bool true) = ((regB (opsAt Try.prog 32 0) 30 = true) ∧ (Value.bool true = Value.bool true)) := by kernel_rfl
theorem awake3 : (evQ Try.prog [] 100000 (Task.call 18) [] h0 [] fun x r x_1 x_2 => r.getD 0 undef = Value.bool true) := Eq.mpr (awake3_eq) (⟨rg_32_0, rfl⟩)


theorem c_awake3 : CallPure Try.prog 18 [] (.bool true) := CallOk.toPure (CallOk.of_evQ good awake3) rfl rfl
end Go.Ev
