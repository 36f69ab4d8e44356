/- A symbolic machine for the model's code, and what it shows of this seat's functions. No conditions. -/
import Derived.Test.YtnofmeckcimodaaBN
import Derived.Test.YtnofmeckcimodaaBSStore
set_option linter.unusedSimpArgs false
set_option linter.unusedVariables false
namespace Go.BB
open Go Go.Proofs
set_option maxRecDepth 100000
set_option exponentiation.threshold 100000
noncomputable section
abbrev g_isNaN : List (Nat × Ctr O0) := []
def isNaN_tm : List Tm := []
def isNaN_P (K : Nat) (a0 : Int) : Option ((Bool × Unit) × Unit × Unit) :=
  some ((a0 != a0, ()), (), ())
theorem isNaN_rn (K : Nat) (a0 : Int) : runF (cfgW g_isNaN) K f_isNaN isNaN_tm [.val tI] [.val .bool] (a0, ()) = isNaN_P K a0 := by kernel_rfl
abbrev g_compare : List (Nat × Ctr O0) := [(n_isNaN, c_isNaN)]
def compare_tm : List Tm := []
def compare_P (K : Nat) (a0 : Int) (a1 : Int) : Option ((Int × Unit) × Unit × Unit × Unit) :=
  br (decide (a0 < a1)) (some (((-1 : Int), ()), (), (), ()))
  (br (decide (a0 > a1)) (some (((1 : Int), ()), (), (), ()))
    (some (((0 : Int), ()), (), (), ())))
theorem compare_rn (K : Nat) (a0 : Int) (a1 : Int) : runF (cfgW g_compare) K f_compare compare_tm [.val tI, .val tI] [.val tI] (a0, a1, ()) = compare_P K a0 a1 := by kernel_rfl
abbrev g_or : List (Nat × Ctr O0) := []
def or_tm : List Tm := [[((3 : Nat), none, Sh.val (Ty.int IntKind.i64)), ((6 : Nat), none, Sh.val (Ty.int IntKind.i64).slice),
    ((7 : Nat), none, Sh.val (Ty.int IntKind.i64)), ((8 : Nat), none, Sh.val (Ty.int IntKind.i64))]]
def or_L1 (rec1 : Int × List Int × Int × Int × Unit →
  Option ((Int × Unit) × Unit × Unit)) : Int × List Int × Int × Int × Unit → Option ((Int × Unit) × Unit × Unit) := fun (y3, y4, y5, y6, ()) =>
  br (decide (y6 < y5))
  (br (decide ((0 : Int) ≤ y6))
    (br (decide (y6 < (↑y4.length : Int)))
      (br (y4.getD y6.toNat (0 : Int) != y3) (some ((y4.getD y6.toNat (0 : Int), ()), (), ()))
        (rec1 (y3, y4, y5, IntKind.i64.wrap (y6 + (1 : Int)), ())))
      none)
    none)
  (some ((y3, ()), (), ()))
def or_P (K : Nat) (a0 : List Int) : Option ((Int × Unit) × Unit × Unit) :=
  loopN or_L1 K ((0 : Int), a0, (↑a0.length : Int), (0 : Int), ())
theorem or_rn (K : Nat) (a0 : List Int) : runF (cfgW g_or) K f_or or_tm [.val (.slice tI)] [.val tI] (a0, ()) = or_P K a0 := by kernel_rfl
abbrev g_lay : List (Nat × Ctr O0) := []
def lay_tm : List Tm := [[((2 : Nat), none, ((Sh.val (Ty.int IntKind.i64)).cons ((Sh.val (Ty.int IntKind.i64)).cons Sh.unit)).ptr),
    ((5 : Nat), none, Sh.own (((Ty.int IntKind.i64).pair (Ty.int IntKind.i64)).pair (Ty.int IntKind.u16))),
    ((11 : Nat), none, Sh.val (Ty.int IntKind.u16).slice), ((12 : Nat), none, Sh.val (Ty.int IntKind.i64)),
    ((13 : Nat), none, Sh.val (Ty.int IntKind.i64))]]
def lay_L1 (rec1 : (Int × Int × Unit) × List ((Int × Int) × Int) × List Int × Int × Int × Unit →
  Option
    ((List ((Int × Int) × Int) × Unit) ×
      Unit ×
        Unit ×
          Unit)) : (Int × Int × Unit) × List ((Int × Int) × Int) × List Int × Int × Int × Unit →
  Option ((List ((Int × Int) × Int) × Unit) × Unit × Unit × Unit) := fun (y3, y4, y5, y6, y7, ()) =>
  br (decide (y7 < y6))
  (br (decide ((0 : Int) ≤ y7))
    (br (decide (y7 < (↑y5.length : Int)))
      (br (decide ((0 : Int) ≤ y7))
        (br (decide (y7 < (↑y4.length : Int)))
          (rec1
            ((y3.1, y3.2.1, ()), y4.set y7.toNat ((y3.1, IntKind.i64.wrap (y3.2.1 + y7)), y5.getD y7.toNat (0 : Int)), y5, y6,
              IntKind.i64.wrap (y7 + (1 : Int)), ()))
          none)
        none)
      none)
    none)
  (some ((y4, ()), (), (), ()))
def lay_P (K : Nat) (a0 : Int × Int) (a1 : List Int) : Option ((List ((Int × Int) × Int) × Unit) × Unit × Unit × Unit) :=
  br (decide ((↑a1.length : Int) ≤ (↑a1.length : Int)))
  (br (decide ((↑a1.length : Int).toNat * (24 : Nat) ≤ LIM))
    (br (decide ((↑a1.length : Int).toNat ≤ LIM))
      (loopN lay_L1 K
        ((a0.1, a0.2, ()), List.replicate (↑a1.length : Int).toNat (((0 : Int), (0 : Int)), (0 : Int)), a1, (↑a1.length : Int), (0 : Int),
          ()))
      none)
    none)
  none
theorem lay_rn (K : Nat) (a0 : Int ×
  Int) (a1 : List Int) : runF (cfgW g_lay) K f_lay lay_tm [.val tKey, .val (.slice tW)] [.own tCell] (a0, a1, ()) = lay_P K a0 a1 := by kernel_rfl
abbrev g_rless : List (Nat × Ctr O0) := []
def rless_tm : List Tm := []
def rless_P (K : Nat) (a0 : Int × Int) (a1 : Int × Int) : Option ((Bool × Unit) × Unit × Unit × Unit) :=
  br (decide (a0.1 < a1.1)) (some ((true, ()), (), (), ()))
  (br (a0.1 == a1.1) (some ((decide (a0.2 < a1.2), ()), (), (), ()))
    (some ((false, ()), (), (), ())))
theorem rless_rn (K : Nat) (a0 : Int ×
  Int) (a1 : Int × Int) : runF (cfgW g_rless) K f_rless rless_tm [.val tKey, .val tKey] [.val .bool] (a0, a1, ()) = rless_P K a0 a1 := by kernel_rfl
abbrev g_rbfind : List (Nat × Ctr O0) := [(n_rless, c_rless)]
def rbfind_tm : List Tm := [[((0 : Nat), none, Sh.val (((Ty.int IntKind.i64).pair (Ty.int IntKind.i64)).pair (Ty.int IntKind.u16)).slice),
    ((3 : Nat), none, ((Sh.val (Ty.int IntKind.i64)).cons ((Sh.val (Ty.int IntKind.i64)).cons Sh.unit)).ptr),
    ((6 : Nat), none, Sh.val (Ty.int IntKind.i64)), ((7 : Nat), none, Sh.val (Ty.int IntKind.i64))]]
def rbfind_L1 (rec1 : List ((Int × Int) × Int) × (Int × Int × Unit) × Int × Int × Unit →
  Option
    ((Int × Bool × Unit) ×
      Unit ×
        Unit ×
          Unit)) : List ((Int × Int) × Int) × (Int × Int × Unit) × Int × Int × Unit →
  Option ((Int × Bool × Unit) × Unit × Unit × Unit) := fun (y3, y4, y5, y6, ()) =>
  br (decide (y5 < y6))
  (br (!false)
    (br (decide ((0 : Int) ≤ IntKind.i64.wrap ((IntKind.i64.wrap (y5 + y6)).tdiv (2 : Int))))
      (br (decide (IntKind.i64.wrap ((IntKind.i64.wrap (y5 + y6)).tdiv (2 : Int)) < (↑y3.length : Int)))
        (br
          (keyLt
            ((y3.getD (IntKind.i64.wrap ((IntKind.i64.wrap (y5 + y6)).tdiv (2 : Int))).toNat (((0 : Int), (0 : Int)), (0 : Int))).1.1,
              (y3.getD (IntKind.i64.wrap ((IntKind.i64.wrap (y5 + y6)).tdiv (2 : Int))).toNat (((0 : Int), (0 : Int)), (0 : Int))).1.2)
            (y4.1, y4.2.1))
          (rec1
            (y3, (y4.1, y4.2.1, ()), IntKind.i64.wrap (IntKind.i64.wrap ((IntKind.i64.wrap (y5 + y6)).tdiv (2 : Int)) + (1 : Int)), y6,
              ()))
          (rec1 (y3, (y4.1, y4.2.1, ()), y5, IntKind.i64.wrap ((IntKind.i64.wrap (y5 + y6)).tdiv (2 : Int)), ())))
        none)
      none)
    none)
  (br (decide (y5 < (↑y3.length : Int)))
    (br (decide ((0 : Int) ≤ y5))
      (br (decide (y5 < (↑y3.length : Int)))
        (some
          ((y5,
              (y3.getD y5.toNat (((0 : Int), (0 : Int)), (0 : Int))).1.1 == y4.1 &&
                (y3.getD y5.toNat (((0 : Int), (0 : Int)), (0 : Int))).1.2 == y4.2.1,
              ()),
            (), (), ()))
        none)
      none)
    (some ((y5, false, ()), (), (), ())))
def rbfind_P (K : Nat) (a0 : List ((Int × Int) × Int)) (a1 : Int × Int) : Option ((Int × Bool × Unit) × Unit × Unit × Unit) :=
  loopN rbfind_L1 K (a0, (a1.1, a1.2, ()), (0 : Int), (↑a0.length : Int), ())
theorem rbfind_rn (K : Nat) (a0 : List
  ((Int × Int) ×
    Int)) (a1 : Int ×
  Int) : runF (cfgW g_rbfind) K f_rbfind rbfind_tm [.val (.slice tCell), .val tKey] [.val tI, .val .bool] (a0, a1, ()) = rbfind_P K a0 a1 := by kernel_rfl
abbrev g_rput : List (Nat × Ctr O0) := [(n_rbfind, c_rbfind)]
def rput_tm : List Tm := []
def rput_P (K : Nat) (a0 : List ((Int × Int) × Int)) (a1 : (Int × Int) × Int) : Option ((List ((Int × Int) × Int) × Unit) × Unit × Unit × Unit) :=
  bd (grd (lenOk a0 && bufS a0) (((↑(cntK a0 (a1.1.1, a1.1.2)) : Int), hasK a0 (a1.1.1, a1.1.2), ()), (), (), ()))
  fun (x1 : (Int × Bool × Unit) × Unit × Unit × Unit) =>
  br (decide ((0 : Int) ≤ x1.1.1))
    (br (decide (x1.1.1 ≤ (↑a0.length : Int)))
      (br (decide ((List.take x1.1.1.toNat a0).length * (24 : Nat) ≤ LIM))
        (br (decide ((List.take x1.1.1.toNat a0).length ≤ LIM))
          (br (decide (((List.take x1.1.1.toNat a0).length + [((a1.1.1, a1.1.2), a1.2)].length) * (24 : Nat) ≤ LIM))
            (br (decide ((List.take x1.1.1.toNat a0).length + [((a1.1.1, a1.1.2), a1.2)].length ≤ LIM))
              (br x1.1.2.1
                (br (decide ((0 : Int) ≤ IntKind.i64.wrap (x1.1.1 + (1 : Int))))
                  (br (decide (IntKind.i64.wrap (x1.1.1 + (1 : Int)) ≤ (↑a0.length : Int)))
                    (br
                      (decide
                        (((cat (List.take x1.1.1.toNat a0) [((a1.1.1, a1.1.2), a1.2)]).length +
                              (List.take (a0.length - (IntKind.i64.wrap (x1.1.1 + (1 : Int))).toNat)
                                  (List.drop (IntKind.i64.wrap (x1.1.1 + (1 : Int))).toNat a0)).length) *
                            (24 : Nat) ≤
                          LIM))
                      (br
                        (decide
                          ((cat (List.take x1.1.1.toNat a0) [((a1.1.1, a1.1.2), a1.2)]).length +
                              (List.take (a0.length - (IntKind.i64.wrap (x1.1.1 + (1 : Int))).toNat)
                                  (List.drop (IntKind.i64.wrap (x1.1.1 + (1 : Int))).toNat a0)).length ≤
                            LIM))
                        (some
                          ((cat (cat (List.take x1.1.1.toNat a0) [((a1.1.1, a1.1.2), a1.2)])
                                (List.take (a0.length - (IntKind.i64.wrap (x1.1.1 + (1 : Int))).toNat)
                                  (List.drop (IntKind.i64.wrap (x1.1.1 + (1 : Int))).toNat a0)),
                              ()),
                            (), (), ()))
                        none)
                      none)
                    none)
                  none)
                (br (decide ((0 : Int) ≤ x1.1.1))
                  (br (decide (x1.1.1 ≤ (↑a0.length : Int)))
                    (br
                      (decide
                        (((cat (List.take x1.1.1.toNat a0) [((a1.1.1, a1.1.2), a1.2)]).length +
                              (List.take (a0.length - x1.1.1.toNat) (List.drop x1.1.1.toNat a0)).length) *
                            (24 : Nat) ≤
                          LIM))
                      (br
                        (decide
                          ((cat (List.take x1.1.1.toNat a0) [((a1.1.1, a1.1.2), a1.2)]).length +
                              (List.take (a0.length - x1.1.1.toNat) (List.drop x1.1.1.toNat a0)).length ≤
                            LIM))
                        (some
                          ((cat (cat (List.take x1.1.1.toNat a0) [((a1.1.1, a1.1.2), a1.2)])
                                (List.take (a0.length - x1.1.1.toNat) (List.drop x1.1.1.toNat a0)),
                              ()),
                            (), (), ()))
                        none)
                      none)
                    none)
                  none))
              none)
            none)
          none)
        none)
      none)
    none
theorem rput_rn (K : Nat) (a0 : List
  ((Int × Int) ×
    Int)) (a1 : (Int × Int) ×
  Int) : runF (cfgW g_rput) K f_rput rput_tm [.val (.slice tCell), .val tCell] [.own tCell] (a0, a1, ()) = rput_P K a0 a1 := by kernel_rfl
abbrev g_rbget : List (Nat × Ctr O0) := [(n_rbfind, c_rbfind)]
def rbget_tm : List Tm := []
def rbget_P (K : Nat) (a0 : List ((Int × Int) × Int)) (a1 : Int × Int) : Option ((Int × Bool × Unit) × Unit × Unit × Unit) :=
  bd (grd (lenOk a0 && bufS a0) (((↑(cntK a0 (a1.1, a1.2)) : Int), hasK a0 (a1.1, a1.2), ()), (), (), ()))
  fun (x1 : (Int × Bool × Unit) × Unit × Unit × Unit) =>
  br (!x1.1.2.1) (some (((0 : Int), false, ()), (), (), ()))
    (br (decide ((0 : Int) ≤ x1.1.1))
      (br (decide (x1.1.1 < (↑a0.length : Int)))
        (some (((a0.getD x1.1.1.toNat (((0 : Int), (0 : Int)), (0 : Int))).2, true, ()), (), (), ())) none)
      none)
theorem rbget_rn (K : Nat) (a0 : List
  ((Int × Int) ×
    Int)) (a1 : Int ×
  Int) : runF (cfgW g_rbget) K f_rbget rbget_tm [.val (.slice tCell), .val tKey] [.val tW, .val .bool] (a0, a1, ()) = rbget_P K a0 a1 := by kernel_rfl
abbrev g_rspanRight : List (Nat × Ctr O0) := []
def rspanRight_tm : List Tm := []
def rspanRight_P (K : Nat) (a0 : Int × Int × Int) : Option ((Bool × Unit) × Unit × Unit) :=
  br (decide (a0.1 ≥ (0 : Int)))
  (br (decide (a0.1 ≤ (3 : Int)))
    (br (decide (a0.2.1 ≥ (0 : Int)))
      (br (decide (a0.2.2 ≤ (65536 : Int))) (some ((decide (a0.2.1 < a0.2.2), ()), (), ()))
        (some ((false, ()), (), ())))
      (some ((false, ()), (), ())))
    (some ((false, ()), (), ())))
  (some ((false, ()), (), ()))
theorem rspanRight_rn (K : Nat) (a0 : Int ×
  Int × Int) : runF (cfgW g_rspanRight) K f_rspanRight rspanRight_tm [.val tSpan] [.val .bool] (a0, ()) = rspanRight_P K a0 := by kernel_rfl
abbrev g_key : List (Nat × Ctr O0) := [(n_within, c_within), (n_digit, c_digit)]
def key_tm : List Tm := []
def key_P (K : Nat) (a0 : Int) : Option (((Int × Int) × Unit) × Unit × Unit) :=
  bd (grd (true && decide ((4 : Int) < (4611686018427387904 : Int))) ((a0 % (4 : Int), ()), (), (), ()))
  fun (x1 : (Int × Unit) × Unit × Unit × Unit) =>
  bd
    (grd (true && (true && decide ((16 : Int) < (4611686018427387904 : Int))))
      ((digitS a0 (4 : Int) (16 : Int), ()), (), (), (), ()))
    fun (x2 : (Int × Unit) × Unit × Unit × Unit × Unit) =>
    bd
      (grd (true && (true && decide ((16 : Int) < (4611686018427387904 : Int))))
        ((digitS a0 (64 : Int) (16 : Int), ()), (), (), (), ()))
      fun (x3 : (Int × Unit) × Unit × Unit × Unit × Unit) =>
      br (x3.1.1 == (0 : Int)) (some (((x1.1.1, IntKind.i64.wrap ((65535 : Int) - x2.1.1)), ()), (), ()))
        (some (((x1.1.1, x2.1.1), ()), (), ()))
theorem key_rn (K : Nat) (a0 : Int) : runF (cfgW g_key) K f_key key_tm [.val tI] [.val tKey] (a0, ()) = key_P K a0 := by kernel_rfl
abbrev g_cell : List (Nat × Ctr O0) := [(n_key, c_key), (n_digit, c_digit)]
def cell_tm : List Tm := []
def cell_P (K : Nat) (a0 : Int) : Option ((((Int × Int) × Int) × Unit) × Unit × Unit) :=
  bd
  (grd (decide ((0 : Int) < (1024 : Int)) && (decide ((0 : Int) < (65536 : Int)) && decide ((65536 : Int) < (4611686018427387904 : Int))))
    ((digitS a0 (1024 : Int) (65536 : Int), ()), (), (), (), ()))
  fun (x1 : (Int × Unit) × Unit × Unit × Unit × Unit) =>
  br (decide ((keyS a0).1 < (2 : Int)))
    (br (!false) (some (((((keyS a0).1, (keyS a0).2), (IntKind.u16.wrap x1.1.1).tmod (2 : Int)), ()), (), ())) none)
    (some (((((keyS a0).1, (keyS a0).2), IntKind.u16.wrap x1.1.1), ()), (), ()))
theorem cell_rn (K : Nat) (a0 : Int) : runF (cfgW g_cell) K f_cell cell_tm [.val tI] [.val tCell] (a0, ()) = cell_P K a0 := by kernel_rfl
abbrev g_cells : List (Nat × Ctr O0) := [(n_cell, c_cell), (n_rput, c_rput)]
def cells_tm : List Tm := [[((0 : Nat), none, Sh.val (Ty.int IntKind.i64).slice),
    ((3 : Nat), none, Sh.own (((Ty.int IntKind.i64).pair (Ty.int IntKind.i64)).pair (Ty.int IntKind.u16))),
    ((4 : Nat), none, Sh.val (Ty.int IntKind.i64))]]
def cells_L1 (rec1 : List Int × List ((Int × Int) × Int) × Int × Unit →
  Option
    ((List ((Int × Int) × Int) × Unit) ×
      Unit ×
        Unit)) : List Int × List ((Int × Int) × Int) × Int × Unit →
  Option ((List ((Int × Int) × Int) × Unit) × Unit × Unit) := fun (y3, y4, y5, ()) =>
  br (decide (y5 < (↑y3.length : Int)))
  (br (decide (y5 < (20 : Int)))
    (br (decide ((0 : Int) ≤ y5))
      (br (decide (y5 < (↑y3.length : Int)))
        (bd
          (grd (lenOk y4 && bufS y4)
            ((putK y4 (((cellS (y3.getD y5.toNat (0 : Int))).1.1, (cellS (y3.getD y5.toNat (0 : Int))).1.2), (cellS (y3.getD y5.toNat (0 : Int))).2),
                ()),
              (), (), ()))
          fun (x6 : (List ((Int × Int) × Int) × Unit) × Unit × Unit × Unit) => rec1 (y3, x6.1.1, IntKind.i64.wrap (y5 + (1 : Int)), ()))
        none)
      none)
    (some ((y4, ()), (), ())))
  (some ((y4, ()), (), ()))
def cells_P (K : Nat) (a0 : List Int) : Option ((List ((Int × Int) × Int) × Unit) × Unit × Unit) :=
  loopN cells_L1 K (a0, [], (0 : Int), ())
theorem cells_rn (K : Nat) (a0 : List
  Int) : runF (cfgW g_cells) K f_cells cells_tm [.val (.slice tI)] [.own tCell] (a0, ()) = cells_P K a0 := by kernel_rfl
end
end Go.BB
