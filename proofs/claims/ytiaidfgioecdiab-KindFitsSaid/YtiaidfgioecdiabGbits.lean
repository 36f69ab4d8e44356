/- A symbolic machine for the model's code, and what it shows of this seat's functions. No conditions. -/
import Derived.Test.YtiaidfgioecdiabN
import Derived.Test.YtiaidfgioecdiabSBits
set_option linter.unusedSimpArgs false
set_option linter.unusedVariables false
namespace Go.BB
open Go Go.Proofs
set_option maxRecDepth 100000
set_option exponentiation.threshold 100000
noncomputable section
abbrev g_bytes : List (Nat × Ctr O0) := []
def bytes_tm : List (List (Nat × SSh O0)) := []
def bytes_P (K : Nat) (a0 : Int) : Option ((Int × Unit) × Unit × Unit) :=
  br (decide (a0 < (1 : Int))) (some (((0 : Int), ()), (), ()))
  (some
    ((IntKind.i64.wrap ((IntKind.i64.wrap (a0 - (1 : Int))).fdiv ((2 : Int) ^ min (Int.toNat (3 : Int)) (64 : Nat)) + (1 : Int)), ()),
      (), ()))
theorem bytes_rn (K : Nat) (a0 : Int) : runF (cfgW g_bytes) K f_bytes bytes_tm [.val tI] [.val tI] (a0, ()) = bytes_P K a0 := by kernel_rfl
end
end Go.BB
