/- A symbolic machine for the model's code, and what it shows of this seat's functions. No conditions. -/
import Derived.Test.YtiaidfgioecdiabN
import Derived.Test.YtiaidfgioecdiabSKind
import Derived.Test.YtiaidfgioecdiabSBits
set_option linter.unusedSimpArgs false
set_option linter.unusedVariables false
namespace Go.BB
open Go Go.Proofs
set_option maxRecDepth 100000
set_option exponentiation.threshold 100000
noncomputable section
abbrev g_table : List (Nat × Ctr O0) := []
def table_tm : List (List (Nat × SSh O0)) := []
def table_P (K : Nat) (a0 : Int) : Option ((Int × Bool × Unit) × Unit × Unit) :=
  br (a0 == (1 : Int)) (some (((0 : Int), true, ()), (), ()))
  (br (a0 == (5 : Int)) (some (((0 : Int), true, ()), (), ()))
    (br (a0 == (15 : Int)) (some (((0 : Int), true, ()), (), ()))
      (br (a0 == (2 : Int)) (some (((1 : Int), true, ()), (), ()))
        (br (a0 == (3 : Int)) (some (((2 : Int), true, ()), (), ()))
          (br (a0 == (6 : Int)) (some (((2 : Int), true, ()), (), ()))
            (br (a0 == (16 : Int)) (some (((2 : Int), true, ()), (), ()))
              (br (a0 == (22 : Int)) (some (((2 : Int), true, ()), (), ()))
                (br (a0 == (23 : Int)) (some (((2 : Int), true, ()), (), ()))
                  (br (a0 == (4 : Int)) (some (((3 : Int), true, ()), (), ()))
                    (some (((0 : Int), false, ()), (), ())))))))))))
theorem table_rn (K : Nat) (a0 : Int) : runF (cfgW g_table) K f_table table_tm [.val tI] [.val tI, .val .bool] (a0, ()) = table_P K a0 := by kernel_rfl
abbrev g_does : List (Nat × Ctr O0) := []
def does_tm : List (List (Nat × SSh O0)) := []
def does_P (K : Nat) (a0 : Int) : Option ((Bool × Bool × Unit) × Unit × Unit) :=
  br (a0 == (1 : Int)) (some ((true, false, ()), (), ()))
  (br (a0 == (2 : Int)) (some ((true, false, ()), (), ()))
    (br (a0 == (3 : Int)) (some ((true, false, ()), (), ()))
      (br (a0 == (4 : Int)) (some ((true, false, ()), (), ()))
        (br (a0 == (22 : Int)) (some ((true, true, ()), (), ()))
          (br (a0 == (23 : Int)) (some ((true, true, ()), (), ()))
            (br (a0 == (5 : Int)) (some ((false, true, ()), (), ()))
              (br (a0 == (6 : Int)) (some ((false, true, ()), (), ()))
                (br (a0 == (15 : Int)) (some ((false, true, ()), (), ()))
                  (br (a0 == (16 : Int)) (some ((false, true, ()), (), ()))
                    (some ((false, false, ()), (), ())))))))))))
theorem does_rn (K : Nat) (a0 : Int) : runF (cfgW g_does) K f_does does_tm [.val tI] [.val .bool, .val .bool] (a0, ()) = does_P K a0 := by kernel_rfl
abbrev g_most : List (Nat × Ctr O0) := []
def most_tm : List (List (Nat × SSh O0)) := []
def most_P (K : Nat) (a0 : Int) : Option ((Int × Int × Unit) × Unit × Unit) :=
  br (a0 == (1 : Int)) (some (((2000 : Int), (0 : Int), ()), (), ()))
  (br (a0 == (2 : Int)) (some (((2000 : Int), (0 : Int), ()), (), ()))
    (br (a0 == (3 : Int)) (some (((125 : Int), (0 : Int), ()), (), ()))
      (br (a0 == (4 : Int)) (some (((125 : Int), (0 : Int), ()), (), ()))
        (br (a0 == (5 : Int)) (some (((0 : Int), (1 : Int), ()), (), ()))
          (br (a0 == (6 : Int)) (some (((0 : Int), (1 : Int), ()), (), ()))
            (br (a0 == (22 : Int)) (some (((0 : Int), (1 : Int), ()), (), ()))
              (br (a0 == (15 : Int)) (some (((0 : Int), (1968 : Int), ()), (), ()))
                (br (a0 == (16 : Int)) (some (((0 : Int), (123 : Int), ()), (), ()))
                  (br (a0 == (23 : Int)) (some (((125 : Int), (121 : Int), ()), (), ()))
                    (some (((0 : Int), (0 : Int), ()), (), ())))))))))))
theorem most_rn (K : Nat) (a0 : Int) : runF (cfgW g_most) K f_most most_tm [.val tI] [.val tI, .val tI] (a0, ()) = most_P K a0 := by kernel_rfl
abbrev g_writes : List (Nat × Ctr O0) := [(n_does, c_does)]
def writes_tm : List (List (Nat × SSh O0)) := []
def writes_P (K : Nat) (a0 : Int) : Option ((Bool × Unit) × Unit × Unit) :=
  some (((doesS a0).2, ()), (), ())
theorem writes_rn (K : Nat) (a0 : Int) : runF (cfgW g_writes) K f_writes writes_tm [.val tI] [.val .bool] (a0, ()) = writes_P K a0 := by kernel_rfl
abbrev g_known : List (Nat × Ctr O0) := [(n_table, c_table)]
def known_tm : List (List (Nat × SSh O0)) := []
def known_P (K : Nat) (a0 : Int) : Option ((Bool × Unit) × Unit × Unit) :=
  br (tabS a0).2 (some ((true, ()), (), ())) (some ((a0 == (43 : Int), ()), (), ()))
theorem known_rn (K : Nat) (a0 : Int) : runF (cfgW g_known) K f_known known_tm [.val tI] [.val .bool] (a0, ()) = known_P K a0 := by kernel_rfl
abbrev g_kbits : List (Nat × Ctr O0) := []
def kbits_tm : List (List (Nat × SSh O0)) := []
def kbits_P (K : Nat) (a0 : Int) : Option ((Bool × Unit) × Unit × Unit) :=
  br (a0 == (0 : Int)) (some ((true, ()), (), ())) (some ((a0 == (1 : Int), ()), (), ()))
theorem kbits_rn (K : Nat) (a0 : Int) : runF (cfgW g_kbits) K f_kbits kbits_tm [.val tI] [.val .bool] (a0, ()) = kbits_P K a0 := by kernel_rfl
end
end Go.BB
