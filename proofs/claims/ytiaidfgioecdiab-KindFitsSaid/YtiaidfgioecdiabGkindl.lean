/- A symbolic machine for the model's code, and what it shows of this seat's functions. No conditions. -/
import Derived.Test.YtiaidfgioecdiabN
import Derived.Test.YtiaidfgioecdiabSKind
import Derived.Test.YtiaidfgioecdiabSBits
set_option linter.unusedSimpArgs false
set_option linter.unusedVariables false
namespace Go.BB
open Go Go.Proofs
set_option maxRecDepth 100000
set_option exponentiation.threshold 100000
noncomputable section
abbrev g_lKindFits : List (Nat × Ctr O0) := [(n_awake3, c_awake3), (n_within, c_within), (n_table, c_table), (n_most, c_most), (n_kbits, c_kbits), (n_bytes, c_bytes), (n_writes, c_writes)]
def lKindFits_tm : List (List (Nat × SSh O0)) := []
def lKindFits_P (K : Nat) (a0 : Int) : Option ((Bool × Unit) × Unit × Unit) :=
  br (!true) (some ((false, ()), (), ()))
  (bd (grd (true && decide ((46 : Int) < (4611686018427387904 : Int))) ((a0 % (46 : Int), ()), (), (), ()))
    fun (x1 : (Int × Unit) × Unit × Unit × Unit) =>
    br (!(tabS x1.1.1).2) (some ((true, ()), (), ()))
      (br (isBits (tabS x1.1.1).1)
        (bd (grd (isN (mostS x1.1.1).1) ((bytesS (mostS x1.1.1).1, ()), (), ())) fun (x2 : (Int × Unit) × Unit × Unit) =>
          bd (grd (isN (mostS x1.1.1).2) ((bytesS (mostS x1.1.1).2, ()), (), ())) fun (x3 : (Int × Unit) × Unit × Unit) =>
            br (decide (x2.1.1 ≤ (251 : Int)))
              (br (decide (x3.1.1 ≤ (247 : Int)))
                (br (doesS x1.1.1).2 (some ((true, ()), (), ()))
                  (some (((mostS x1.1.1).2 == (0 : Int), ()), (), ())))
                (some ((false, ()), (), ())))
              (some ((false, ()), (), ())))
        (br (decide (IntKind.i64.wrap ((2 : Int) * (mostS x1.1.1).1) ≤ (251 : Int)))
          (br (decide (IntKind.i64.wrap ((2 : Int) * (mostS x1.1.1).2) ≤ (247 : Int)))
            (br (doesS x1.1.1).2 (some ((true, ()), (), ()))
              (some (((mostS x1.1.1).2 == (0 : Int), ()), (), ())))
            (some ((false, ()), (), ())))
          (some ((false, ()), (), ())))))
theorem lKindFits_rn (K : Nat) (a0 : Int) : runF (cfgW g_lKindFits) K f_lKindFits lKindFits_tm [.val tI] [.val .bool] (a0, ()) = lKindFits_P K a0 := by kernel_rfl
abbrev g_awake3 : List (Nat × Ctr O0) := [(n_table, c_table), (n_most, c_most), (n_known, c_known)]
theorem awake3_rn : runF (cfgW g_awake3) 0 f_awake3 [] [] [.val .bool] () = some ((true, ()), ()) := by kernel_rfl
end
end Go.BB
