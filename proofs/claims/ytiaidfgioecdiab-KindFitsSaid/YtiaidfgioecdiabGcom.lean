/- A symbolic machine for the model's code, and what it shows of this seat's functions. No conditions. -/
import Derived.Test.YtiaidfgioecdiabN
import Derived.Test.YtiaidfgioecdiabSCom
set_option linter.unusedSimpArgs false
set_option linter.unusedVariables false
namespace Go.BB
open Go Go.Proofs
set_option maxRecDepth 100000
set_option exponentiation.threshold 100000
noncomputable section
abbrev g_within : List (Nat × Ctr O0) := []
def within_tm : List (List (Nat × SSh O0)) := []
def within_P (K : Nat) (a0 : Int) (a1 : Int) : Option ((Int × Unit) × Unit × Unit × Unit) :=
  br (!decide (a1 = (0 : Int)))
  (br (decide (a0.tmod a1 < (0 : Int))) (some ((IntKind.i64.wrap (a0.tmod a1 + a1), ()), (), (), ()))
    (some ((a0.tmod a1, ()), (), (), ())))
  none
theorem within_rn (K : Nat) (a0 : Int) (a1 : Int) : runF (cfgW g_within) K f_within within_tm [.val tI, .val tI] [.val tI] (a0, a1, ()) = within_P K a0 a1 := by kernel_rfl
end
end Go.BB
