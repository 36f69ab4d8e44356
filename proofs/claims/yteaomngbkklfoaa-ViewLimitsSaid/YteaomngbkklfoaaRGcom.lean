/- A symbolic machine for the model's code, and what it shows of this seat's functions. No conditions. -/
import Derived.Test.YteaomngbkklfoaaRN
import Derived.Test.YteaomngbkklfoaaRSStore
set_option linter.unusedSimpArgs false
set_option linter.unusedVariables false
namespace Go.BB
open Go Go.Proofs
set_option maxRecDepth 100000
set_option exponentiation.threshold 100000
noncomputable section
abbrev g_within : List (Nat × Ctr O0) := []
def within_tm : List Tm := []
def within_P (K : Nat) (a0 : Int) (a1 : Int) : Option ((Int × Unit) × Unit × Unit × Unit) :=
  br (!decide (a1 = (0 : Int)))
  (br (decide (a0.tmod a1 < (0 : Int))) (some ((IntKind.i64.wrap (a0.tmod a1 + a1), ()), (), (), ()))
    (some ((a0.tmod a1, ()), (), (), ())))
  none
theorem within_rn (K : Nat) (a0 : Int) (a1 : Int) : runF (cfgW g_within) K f_within within_tm [.val tI, .val tI] [.val tI] (a0, a1, ()) = within_P K a0 a1 := by kernel_rfl
abbrev g_digit : List (Nat × Ctr O0) := [(n_within, c_within)]
def digit_tm : List Tm := []
def digit_P (K : Nat) (a0 : Int) (a1 : Int) (a2 : Int) : Option ((Int × Unit) × Unit × Unit × Unit × Unit) :=
  br (!decide (a1 = (0 : Int)))
  (bd
    (grd (decide ((0 : Int) < a2) && decide (a2 < (4611686018427387904 : Int)))
      ((IntKind.i64.wrap (a0.tdiv a1) % a2, ()), (), (), ()))
    fun (x1 : (Int × Unit) × Unit × Unit × Unit) => some ((x1.1.1, ()), (), (), (), ()))
  none
theorem digit_rn (K : Nat) (a0 : Int) (a1 : Int) (a2 : Int) : runF (cfgW g_digit) K f_digit digit_tm [.val tI, .val tI, .val tI] [.val tI] (a0, a1, a2, ()) = digit_P K a0 a1 a2 := by kernel_rfl
abbrev g_sameWords : List (Nat × Ctr O0) := []
def sameWords_tm : List Tm := [[((0 : Nat), none, Sh.val (Ty.int IntKind.u16).slice), ((1 : Nat), none, Sh.val (Ty.int IntKind.u16).slice),
    ((5 : Nat), none, Sh.val (Ty.int IntKind.i64))]]
def sameWords_L1 (rec1 : List Int × List Int × Int × Unit →
  Option
    ((Bool × Unit) ×
      Unit × Unit × Unit)) : List Int × List Int × Int × Unit → Option ((Bool × Unit) × Unit × Unit × Unit) := fun (y3, y4, y5, ()) =>
  br (decide (y5 < (↑y3.length : Int)))
  (br (decide ((0 : Int) ≤ y5))
    (br (decide (y5 < (↑y3.length : Int)))
      (br (decide ((0 : Int) ≤ y5))
        (br (decide (y5 < (↑y4.length : Int)))
          (br (y3.getD y5.toNat (0 : Int) != y4.getD y5.toNat (0 : Int)) (some ((false, ()), (), (), ()))
            (rec1 (y3, y4, IntKind.i64.wrap (y5 + (1 : Int)), ())))
          none)
        none)
      none)
    none)
  (some ((true, ()), (), (), ()))
def sameWords_P (K : Nat) (a0 : List Int) (a1 : List Int) : Option ((Bool × Unit) × Unit × Unit × Unit) :=
  br ((↑a0.length : Int) != (↑a1.length : Int)) (some ((false, ()), (), (), ()))
  (loopN sameWords_L1 K (a0, a1, (0 : Int), ()))
theorem sameWords_rn (K : Nat) (a0 : List
  Int) (a1 : List
  Int) : runF (cfgW g_sameWords) K f_sameWords sameWords_tm [.val (.slice tW), .val (.slice tW)] [.val .bool] (a0, a1, ()) = sameWords_P K a0 a1 := by kernel_rfl
abbrev g_lentSpans : List (Nat × Ctr O0) := []
def lentSpans_tm : List Tm := [[((0 : Nat), none, Sh.val ((Ty.int IntKind.i64).pair ((Ty.int IntKind.i64).pair (Ty.int IntKind.i64))).slice),
    ((3 : Nat), none, Sh.own ((Ty.int IntKind.i64).pair ((Ty.int IntKind.i64).pair (Ty.int IntKind.i64)))),
    ((4 : Nat), none, Sh.val (Ty.int IntKind.i64))]]
def lentSpans_L1 (rec1 : List (Int × Int × Int) × List (Int × Int × Int) × Int × Unit →
  Option
    (((List (Int × Int × Int) × Nat) × Unit) ×
      Unit ×
        Unit)) : List (Int × Int × Int) × List (Int × Int × Int) × Int × Unit →
  Option (((List (Int × Int × Int) × Nat) × Unit) × Unit × Unit) := fun (y3, y4, y5, ()) =>
  br (decide (y5 < (↑y4.length : Int)))
  (br (decide ((0 : Int) ≤ y5))
    (br (decide (y5 < (↑y4.length : Int)))
      (rec1 (y3, y4.set y5.toNat ((7 : Int), (7 : Int), (7 : Int)), IntKind.i64.wrap (y5 + (1 : Int)), ())) none)
    none)
  (br (decide ((↑y3.length : Int) ≤ (↑y4.length : Int))) (some (((y4, (↑y3.length : Int).toNat), ()), (), ())) none)
def lentSpans_P (K : Nat) (a0 : List (Int × Int × Int)) : Option (((List (Int × Int × Int) × Nat) × Unit) × Unit × Unit) :=
  br (decide ((0 : Int) ≤ IntKind.i64.wrap ((↑a0.length : Int) + (3 : Int))))
  (br (decide (IntKind.i64.wrap ((↑a0.length : Int) + (3 : Int)) ≤ IntKind.i64.wrap ((↑a0.length : Int) + (3 : Int))))
    (br (decide ((IntKind.i64.wrap ((↑a0.length : Int) + (3 : Int))).toNat * (24 : Nat) ≤ LIM))
      (br (decide ((IntKind.i64.wrap ((↑a0.length : Int) + (3 : Int))).toNat ≤ LIM))
        (loopN lentSpans_L1 K
          (a0,
            splice (List.replicate (IntKind.i64.wrap ((↑a0.length : Int) + (3 : Int))).toNat ((0 : Int), (0 : Int), (0 : Int))) a0 (0 : Nat)
              (List.replicate (IntKind.i64.wrap ((↑a0.length : Int) + (3 : Int))).toNat ((0 : Int), (0 : Int), (0 : Int))).length,
            (↑a0.length : Int), ()))
        none)
      none)
    none)
  none
theorem lentSpans_rn (K : Nat) (a0 : List
  (Int ×
    Int × Int)) : runF (cfgW g_lentSpans) K f_lentSpans lentSpans_tm [.val (.slice tSpan)] [.sub tSpan] (a0, ()) = lentSpans_P K a0 := by kernel_rfl
abbrev g_staysSpans : List (Nat × Ctr O0) := []
def staysSpans_tm : List Tm := [[((1 : Nat), none, Sh.val ((Ty.int IntKind.i64).pair ((Ty.int IntKind.i64).pair (Ty.int IntKind.i64))).slice),
    ((5 : Nat), some (0 : Nat), Sh.sub ((Ty.int IntKind.i64).pair ((Ty.int IntKind.i64).pair (Ty.int IntKind.i64)))),
    ((6 : Nat), none, Sh.val (Ty.int IntKind.i64))]]
def staysSpans_L1 (rec1 : List (Int × Int × Int) × (List (Int × Int × Int) × Nat) × Int × Unit →
  Option
    ((Bool × Unit) ×
      List (Int × Int × Int) ×
        Unit ×
          Unit)) : List (Int × Int × Int) × (List (Int × Int × Int) × Nat) × Int × Unit →
  Option ((Bool × Unit) × List (Int × Int × Int) × Unit × Unit) := fun (y3, y4, y5, ()) =>
  br (decide (y5 < (↑y4.2 : Int)))
  (br (decide (y5 < (↑y3.length : Int)))
    (br (decide ((0 : Int) ≤ y5))
      (br (decide (y5 < (↑y4.2 : Int)))
        (br (decide ((0 : Int) ≤ y5))
          (br (decide (y5 < (↑y3.length : Int)))
            (br
              (!((y4.1.getD y5.toNat ((0 : Int), (0 : Int), (0 : Int))).1 == (y3.getD y5.toNat ((0 : Int), (0 : Int), (0 : Int))).1 &&
                  ((y4.1.getD y5.toNat ((0 : Int), (0 : Int), (0 : Int))).2.1 == (y3.getD y5.toNat ((0 : Int), (0 : Int), (0 : Int))).2.1 &&
                    (y4.1.getD y5.toNat ((0 : Int), (0 : Int), (0 : Int))).2.2 == (y3.getD y5.toNat ((0 : Int), (0 : Int), (0 : Int))).2.2)))
              (some ((false, ()), y4.1, (), ()))
              (br (decide (y5 ≥ (↑y3.length : Int)))
                (br (decide ((0 : Int) ≤ y5))
                  (br (decide (y5 < (↑y4.2 : Int)))
                    (br
                      (!((y4.1.getD y5.toNat ((0 : Int), (0 : Int), (0 : Int))).1 == (7 : Int) &&
                          ((y4.1.getD y5.toNat ((0 : Int), (0 : Int), (0 : Int))).2.1 == (7 : Int) &&
                            (y4.1.getD y5.toNat ((0 : Int), (0 : Int), (0 : Int))).2.2 == (7 : Int))))
                      (some ((false, ()), y4.1, (), ()))
                      (rec1 (y3, (y4.1, y4.2), IntKind.i64.wrap (y5 + (1 : Int)), ())))
                    none)
                  none)
                (rec1 (y3, (y4.1, y4.2), IntKind.i64.wrap (y5 + (1 : Int)), ()))))
            none)
          none)
        none)
      none)
    (br (decide (y5 ≥ (↑y3.length : Int)))
      (br (decide ((0 : Int) ≤ y5))
        (br (decide (y5 < (↑y4.2 : Int)))
          (br
            (!((y4.1.getD y5.toNat ((0 : Int), (0 : Int), (0 : Int))).1 == (7 : Int) &&
                ((y4.1.getD y5.toNat ((0 : Int), (0 : Int), (0 : Int))).2.1 == (7 : Int) &&
                  (y4.1.getD y5.toNat ((0 : Int), (0 : Int), (0 : Int))).2.2 == (7 : Int))))
            (some ((false, ()), y4.1, (), ())) (rec1 (y3, (y4.1, y4.2), IntKind.i64.wrap (y5 + (1 : Int)), ())))
          none)
        none)
      (rec1 (y3, (y4.1, y4.2), IntKind.i64.wrap (y5 + (1 : Int)), ()))))
  (some ((true, ()), y4.1, (), ()))
def staysSpans_P (K : Nat) (a0 : List (Int × Int × Int) ×
  Nat) (a1 : List (Int × Int × Int)) : Option ((Bool × Unit) × List (Int × Int × Int) × Unit × Unit) :=
  br ((↑a0.2 : Int) != (↑a1.length : Int)) (some ((false, ()), a0.1, (), ()))
  (br (decide ((0 : Int) ≤ IntKind.i64.wrap ((↑a1.length : Int) + (3 : Int))))
    (br (decide (IntKind.i64.wrap ((↑a1.length : Int) + (3 : Int)) ≤ (↑(a0.1.length - (0 : Nat)) : Int)))
      (loopN staysSpans_L1 K (a1, (a0.1, (IntKind.i64.wrap ((↑a1.length : Int) + (3 : Int))).toNat), (0 : Int), ())) none)
    none)
theorem staysSpans_rn (K : Nat) (a0 : List (Int × Int × Int) ×
  Nat) (a1 : List
  (Int ×
    Int ×
      Int)) : runF (cfgW g_staysSpans) K f_staysSpans staysSpans_tm [.row tSpan, .val (.slice tSpan)] [.val .bool] (a0, a1, ()) = staysSpans_P K a0 a1 := by kernel_rfl
abbrev g_sameSpans : List (Nat × Ctr O0) := []
def sameSpans_tm : List Tm := [[((0 : Nat), none, Sh.val ((Ty.int IntKind.i64).pair ((Ty.int IntKind.i64).pair (Ty.int IntKind.i64))).slice),
    ((1 : Nat), none, Sh.val ((Ty.int IntKind.i64).pair ((Ty.int IntKind.i64).pair (Ty.int IntKind.i64))).slice),
    ((5 : Nat), none, Sh.val (Ty.int IntKind.i64))]]
def sameSpans_L1 (rec1 : List (Int × Int × Int) × List (Int × Int × Int) × Int × Unit →
  Option
    ((Bool × Unit) ×
      Unit ×
        Unit ×
          Unit)) : List (Int × Int × Int) × List (Int × Int × Int) × Int × Unit →
  Option ((Bool × Unit) × Unit × Unit × Unit) := fun (y3, y4, y5, ()) =>
  br (decide (y5 < (↑y3.length : Int)))
  (br (decide ((0 : Int) ≤ y5))
    (br (decide (y5 < (↑y3.length : Int)))
      (br (decide ((0 : Int) ≤ y5))
        (br (decide (y5 < (↑y4.length : Int)))
          (br
            (!((y3.getD y5.toNat ((0 : Int), (0 : Int), (0 : Int))).1 == (y4.getD y5.toNat ((0 : Int), (0 : Int), (0 : Int))).1 &&
                ((y3.getD y5.toNat ((0 : Int), (0 : Int), (0 : Int))).2.1 == (y4.getD y5.toNat ((0 : Int), (0 : Int), (0 : Int))).2.1 &&
                  (y3.getD y5.toNat ((0 : Int), (0 : Int), (0 : Int))).2.2 == (y4.getD y5.toNat ((0 : Int), (0 : Int), (0 : Int))).2.2)))
            (some ((false, ()), (), (), ())) (rec1 (y3, y4, IntKind.i64.wrap (y5 + (1 : Int)), ())))
          none)
        none)
      none)
    none)
  (some ((true, ()), (), (), ()))
def sameSpans_P (K : Nat) (a0 : List (Int × Int × Int)) (a1 : List (Int × Int × Int)) : Option ((Bool × Unit) × Unit × Unit × Unit) :=
  br ((↑a0.length : Int) != (↑a1.length : Int)) (some ((false, ()), (), (), ()))
  (loopN sameSpans_L1 K (a0, a1, (0 : Int), ()))
theorem sameSpans_rn (K : Nat) (a0 : List
  (Int ×
    Int ×
      Int)) (a1 : List
  (Int ×
    Int ×
      Int)) : runF (cfgW g_sameSpans) K f_sameSpans sameSpans_tm [.val (.slice tSpan), .val (.slice tSpan)] [.val .bool] (a0, a1, ()) = sameSpans_P K a0 a1 := by kernel_rfl
abbrev g_cloneSpans : List (Nat × Ctr O0) := []
def cloneSpans_tm : List Tm := []
def cloneSpans_P (K : Nat) (a0 : List (Int × Int × Int)) : Option ((List (Int × Int × Int) × Unit) × Unit × Unit) :=
  mayB a0.isEmpty (some (([], ()), (), ()))
  (br (decide (((0 : Nat) + a0.length) * (24 : Nat) ≤ LIM))
    (br (decide ((0 : Nat) + a0.length ≤ LIM)) (some ((cat [] a0, ()), (), ())) none) none)
theorem cloneSpans_rn (K : Nat) (a0 : List
  (Int ×
    Int ×
      Int)) : runF (cfgW g_cloneSpans) K f_cloneSpans cloneSpans_tm [.val (.slice tSpan)] [.own tSpan] (a0, ()) = cloneSpans_P K a0 := by kernel_rfl
abbrev g_lentCells : List (Nat × Ctr O0) := []
def lentCells_tm : List Tm := [[((0 : Nat), none, Sh.val (((Ty.int IntKind.i64).pair (Ty.int IntKind.i64)).pair (Ty.int IntKind.u16)).slice),
    ((3 : Nat), none, Sh.own (((Ty.int IntKind.i64).pair (Ty.int IntKind.i64)).pair (Ty.int IntKind.u16))),
    ((4 : Nat), none, Sh.val (Ty.int IntKind.i64))]]
def lentCells_L1 (rec1 : List ((Int × Int) × Int) × List ((Int × Int) × Int) × Int × Unit →
  Option
    (((List ((Int × Int) × Int) × Nat) × Unit) ×
      Unit ×
        Unit)) : List ((Int × Int) × Int) × List ((Int × Int) × Int) × Int × Unit →
  Option (((List ((Int × Int) × Int) × Nat) × Unit) × Unit × Unit) := fun (y3, y4, y5, ()) =>
  br (decide (y5 < (↑y4.length : Int)))
  (br (decide ((0 : Int) ≤ y5))
    (br (decide (y5 < (↑y4.length : Int)))
      (rec1 (y3, y4.set y5.toNat (((0 : Int), (0 : Int)), (7 : Int)), IntKind.i64.wrap (y5 + (1 : Int)), ())) none)
    none)
  (br (decide ((↑y3.length : Int) ≤ (↑y4.length : Int))) (some (((y4, (↑y3.length : Int).toNat), ()), (), ())) none)
def lentCells_P (K : Nat) (a0 : List ((Int × Int) × Int)) : Option (((List ((Int × Int) × Int) × Nat) × Unit) × Unit × Unit) :=
  br (decide ((0 : Int) ≤ IntKind.i64.wrap ((↑a0.length : Int) + (3 : Int))))
  (br (decide (IntKind.i64.wrap ((↑a0.length : Int) + (3 : Int)) ≤ IntKind.i64.wrap ((↑a0.length : Int) + (3 : Int))))
    (br (decide ((IntKind.i64.wrap ((↑a0.length : Int) + (3 : Int))).toNat * (24 : Nat) ≤ LIM))
      (br (decide ((IntKind.i64.wrap ((↑a0.length : Int) + (3 : Int))).toNat ≤ LIM))
        (loopN lentCells_L1 K
          (a0,
            splice (List.replicate (IntKind.i64.wrap ((↑a0.length : Int) + (3 : Int))).toNat (((0 : Int), (0 : Int)), (0 : Int))) a0 (0 : Nat)
              (List.replicate (IntKind.i64.wrap ((↑a0.length : Int) + (3 : Int))).toNat (((0 : Int), (0 : Int)), (0 : Int))).length,
            (↑a0.length : Int), ()))
        none)
      none)
    none)
  none
theorem lentCells_rn (K : Nat) (a0 : List
  ((Int × Int) ×
    Int)) : runF (cfgW g_lentCells) K f_lentCells lentCells_tm [.val (.slice tCell)] [.sub tCell] (a0, ()) = lentCells_P K a0 := by kernel_rfl
abbrev g_staysCells : List (Nat × Ctr O0) := []
def staysCells_tm : List Tm := [[((1 : Nat), none, Sh.val (((Ty.int IntKind.i64).pair (Ty.int IntKind.i64)).pair (Ty.int IntKind.u16)).slice),
    ((5 : Nat), some (0 : Nat), Sh.sub (((Ty.int IntKind.i64).pair (Ty.int IntKind.i64)).pair (Ty.int IntKind.u16))),
    ((6 : Nat), none, Sh.val (Ty.int IntKind.i64))]]
def staysCells_L1 (rec1 : List ((Int × Int) × Int) × (List ((Int × Int) × Int) × Nat) × Int × Unit →
  Option
    ((Bool × Unit) ×
      List ((Int × Int) × Int) ×
        Unit ×
          Unit)) : List ((Int × Int) × Int) × (List ((Int × Int) × Int) × Nat) × Int × Unit →
  Option ((Bool × Unit) × List ((Int × Int) × Int) × Unit × Unit) := fun (y3, y4, y5, ()) =>
  br (decide (y5 < (↑y4.2 : Int)))
  (br (decide (y5 < (↑y3.length : Int)))
    (br (decide ((0 : Int) ≤ y5))
      (br (decide (y5 < (↑y4.2 : Int)))
        (br (decide ((0 : Int) ≤ y5))
          (br (decide (y5 < (↑y3.length : Int)))
            (br
              (!((y4.1.getD y5.toNat (((0 : Int), (0 : Int)), (0 : Int))).1.1 == (y3.getD y5.toNat (((0 : Int), (0 : Int)), (0 : Int))).1.1 &&
                    (y4.1.getD y5.toNat (((0 : Int), (0 : Int)), (0 : Int))).1.2 == (y3.getD y5.toNat (((0 : Int), (0 : Int)), (0 : Int))).1.2 &&
                  (y4.1.getD y5.toNat (((0 : Int), (0 : Int)), (0 : Int))).2 == (y3.getD y5.toNat (((0 : Int), (0 : Int)), (0 : Int))).2))
              (some ((false, ()), y4.1, (), ()))
              (br (decide (y5 ≥ (↑y3.length : Int)))
                (br (decide ((0 : Int) ≤ y5))
                  (br (decide (y5 < (↑y4.2 : Int)))
                    (br
                      (!((y4.1.getD y5.toNat (((0 : Int), (0 : Int)), (0 : Int))).1.1 == (0 : Int) &&
                            (y4.1.getD y5.toNat (((0 : Int), (0 : Int)), (0 : Int))).1.2 == (0 : Int) &&
                          (y4.1.getD y5.toNat (((0 : Int), (0 : Int)), (0 : Int))).2 == (7 : Int)))
                      (some ((false, ()), y4.1, (), ()))
                      (rec1 (y3, (y4.1, y4.2), IntKind.i64.wrap (y5 + (1 : Int)), ())))
                    none)
                  none)
                (rec1 (y3, (y4.1, y4.2), IntKind.i64.wrap (y5 + (1 : Int)), ()))))
            none)
          none)
        none)
      none)
    (br (decide (y5 ≥ (↑y3.length : Int)))
      (br (decide ((0 : Int) ≤ y5))
        (br (decide (y5 < (↑y4.2 : Int)))
          (br
            (!((y4.1.getD y5.toNat (((0 : Int), (0 : Int)), (0 : Int))).1.1 == (0 : Int) &&
                  (y4.1.getD y5.toNat (((0 : Int), (0 : Int)), (0 : Int))).1.2 == (0 : Int) &&
                (y4.1.getD y5.toNat (((0 : Int), (0 : Int)), (0 : Int))).2 == (7 : Int)))
            (some ((false, ()), y4.1, (), ())) (rec1 (y3, (y4.1, y4.2), IntKind.i64.wrap (y5 + (1 : Int)), ())))
          none)
        none)
      (rec1 (y3, (y4.1, y4.2), IntKind.i64.wrap (y5 + (1 : Int)), ()))))
  (some ((true, ()), y4.1, (), ()))
def staysCells_P (K : Nat) (a0 : List ((Int × Int) × Int) ×
  Nat) (a1 : List ((Int × Int) × Int)) : Option ((Bool × Unit) × List ((Int × Int) × Int) × Unit × Unit) :=
  br ((↑a0.2 : Int) != (↑a1.length : Int)) (some ((false, ()), a0.1, (), ()))
  (br (decide ((0 : Int) ≤ IntKind.i64.wrap ((↑a1.length : Int) + (3 : Int))))
    (br (decide (IntKind.i64.wrap ((↑a1.length : Int) + (3 : Int)) ≤ (↑(a0.1.length - (0 : Nat)) : Int)))
      (loopN staysCells_L1 K (a1, (a0.1, (IntKind.i64.wrap ((↑a1.length : Int) + (3 : Int))).toNat), (0 : Int), ())) none)
    none)
theorem staysCells_rn (K : Nat) (a0 : List ((Int × Int) × Int) ×
  Nat) (a1 : List
  ((Int × Int) ×
    Int)) : runF (cfgW g_staysCells) K f_staysCells staysCells_tm [.row tCell, .val (.slice tCell)] [.val .bool] (a0, a1, ()) = staysCells_P K a0 a1 := by kernel_rfl
abbrev g_sameCells : List (Nat × Ctr O0) := []
def sameCells_tm : List Tm := [[((0 : Nat), none, Sh.val (((Ty.int IntKind.i64).pair (Ty.int IntKind.i64)).pair (Ty.int IntKind.u16)).slice),
    ((1 : Nat), none, Sh.val (((Ty.int IntKind.i64).pair (Ty.int IntKind.i64)).pair (Ty.int IntKind.u16)).slice),
    ((5 : Nat), none, Sh.val (Ty.int IntKind.i64))]]
def sameCells_L1 (rec1 : List ((Int × Int) × Int) × List ((Int × Int) × Int) × Int × Unit →
  Option
    ((Bool × Unit) ×
      Unit ×
        Unit ×
          Unit)) : List ((Int × Int) × Int) × List ((Int × Int) × Int) × Int × Unit →
  Option ((Bool × Unit) × Unit × Unit × Unit) := fun (y3, y4, y5, ()) =>
  br (decide (y5 < (↑y3.length : Int)))
  (br (decide ((0 : Int) ≤ y5))
    (br (decide (y5 < (↑y3.length : Int)))
      (br (decide ((0 : Int) ≤ y5))
        (br (decide (y5 < (↑y4.length : Int)))
          (br
            (!((y3.getD y5.toNat (((0 : Int), (0 : Int)), (0 : Int))).1.1 == (y4.getD y5.toNat (((0 : Int), (0 : Int)), (0 : Int))).1.1 &&
                  (y3.getD y5.toNat (((0 : Int), (0 : Int)), (0 : Int))).1.2 == (y4.getD y5.toNat (((0 : Int), (0 : Int)), (0 : Int))).1.2 &&
                (y3.getD y5.toNat (((0 : Int), (0 : Int)), (0 : Int))).2 == (y4.getD y5.toNat (((0 : Int), (0 : Int)), (0 : Int))).2))
            (some ((false, ()), (), (), ())) (rec1 (y3, y4, IntKind.i64.wrap (y5 + (1 : Int)), ())))
          none)
        none)
      none)
    none)
  (some ((true, ()), (), (), ()))
def sameCells_P (K : Nat) (a0 : List ((Int × Int) × Int)) (a1 : List ((Int × Int) × Int)) : Option ((Bool × Unit) × Unit × Unit × Unit) :=
  br ((↑a0.length : Int) != (↑a1.length : Int)) (some ((false, ()), (), (), ()))
  (loopN sameCells_L1 K (a0, a1, (0 : Int), ()))
theorem sameCells_rn (K : Nat) (a0 : List
  ((Int × Int) ×
    Int)) (a1 : List
  ((Int × Int) ×
    Int)) : runF (cfgW g_sameCells) K f_sameCells sameCells_tm [.val (.slice tCell), .val (.slice tCell)] [.val .bool] (a0, a1, ()) = sameCells_P K a0 a1 := by kernel_rfl
abbrev g_cloneCells : List (Nat × Ctr O0) := []
def cloneCells_tm : List Tm := []
def cloneCells_P (K : Nat) (a0 : List ((Int × Int) × Int)) : Option ((List ((Int × Int) × Int) × Unit) × Unit × Unit) :=
  mayB a0.isEmpty (some (([], ()), (), ()))
  (br (decide (((0 : Nat) + a0.length) * (24 : Nat) ≤ LIM))
    (br (decide ((0 : Nat) + a0.length ≤ LIM)) (some ((cat [] a0, ()), (), ())) none) none)
theorem cloneCells_rn (K : Nat) (a0 : List
  ((Int × Int) ×
    Int)) : runF (cfgW g_cloneCells) K f_cloneCells cloneCells_tm [.val (.slice tCell)] [.own tCell] (a0, ()) = cloneCells_P K a0 := by kernel_rfl
end
end Go.BB
