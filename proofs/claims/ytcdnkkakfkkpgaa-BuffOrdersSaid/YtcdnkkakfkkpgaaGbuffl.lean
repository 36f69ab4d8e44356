/- A symbolic machine for the model's code, and what it shows of this seat's functions. No conditions. -/
import Derived.Test.YtcdnkkakfkkpgaaN
import Derived.Test.YtcdnkkakfkkpgaaSBuff
set_option linter.unusedSimpArgs false
set_option linter.unusedVariables false
namespace Go.BB
open Go Go.Proofs
set_option maxRecDepth 100000
set_option exponentiation.threshold 100000
noncomputable section
abbrev g_lBuffTells : List (Nat × Ctr O0) := [(n_awake18, c_awake18), (n_lentCells, c_lentCells), (n_cells, c_cells), (n_bright, c_bright), (n_rbright, c_rbright), (n_staysCells, c_staysCells), (n_within, c_within)]
def lBuffTells_tm : List (List (Nat × SSh O0)) := []
def lBuffTells_P (K : Nat) (a0 : List
  ((Int × Int) × Int)) (a1 : List Int) (a2 : Int) (a3 : Int) : Option ((Bool × Unit) × Unit × Unit × Unit × Unit × Unit) :=
  br (decide ((↑a0.length : Int) > (40 : Int))) (some ((true, ()), (), (), (), (), ()))
  (br (!true) (some ((true, ()), (), (), (), (), ()))
    (bd (grd (decide (a0.length < (1000000 : Nat))) (((lentS (((0 : Int), (0 : Int)), (7 : Int)) a0, a0.length), ()), (), ()))
      fun (x1 : ((List ((Int × Int) × Int) × Nat) × Unit) × Unit × Unit) =>
      bd
        (grd (lenOk (List.take x1.1.1.2 (List.drop (0 : Nat) x1.1.1.1)))
          ((bufS (List.take x1.1.1.2 (List.drop (0 : Nat) x1.1.1.1)), ()), (), ()))
        fun (x2 : (Bool × Unit) × Unit × Unit) =>
        bd (grd (lenOk a0) ((bufS a0, ()), (), ())) fun (x3 : (Bool × Unit) × Unit × Unit) =>
          br (!x2.1.1 == x3.1.1) (some ((false, ()), (), (), (), (), ()))
            (bd
              (grd (staysS (((0 : Int), (0 : Int)), (7 : Int)) x1.1.1.1 x1.1.1.2 a0 && decide (a0.length < (1000000 : Nat)))
                ((true, ()), x1.1.1.1, (), ()))
              fun (x4 : (Bool × Unit) × List ((Int × Int) × Int) × Unit × Unit) =>
              br (!x4.1.1) (some ((false, ()), (), (), (), (), ()))
                (bd (grd (lenOk (cellsS a1)) ((bufS (cellsS a1), ()), (), ())) fun (x5 : (Bool × Unit) × Unit × Unit) =>
                  br (!x5.1.1) (some ((false, ()), (), (), (), (), ()))
                    (br ((↑(cellsS a1).length : Int) == (0 : Int))
                      (some ((true, ()), (), (), (), (), ()))
                      (bd
                        (grd (decide ((0 : Int) < (↑(cellsS a1).length : Int)) && decide ((↑(cellsS a1).length : Int) < (4611686018427387904 : Int)))
                          ((a2 % (↑(cellsS a1).length : Int), ()), (), (), ()))
                        fun (x6 : (Int × Unit) × Unit × Unit × Unit) =>
                        bd
                          (grd
                            (decide ((0 : Int) < (↑(cellsS a1).length : Int)) && decide ((↑(cellsS a1).length : Int) < (4611686018427387904 : Int)))
                            ((a3 % (↑(cellsS a1).length : Int), ()), (), (), ()))
                          fun (x7 : (Int × Unit) × Unit × Unit × Unit) =>
                          br (decide ((cellsS a1).length * (24 : Nat) ≤ LIM))
                            (br (decide ((cellsS a1).length ≤ LIM))
                              (br (decide ((0 : Int) ≤ x6.1.1))
                                (br (decide (x6.1.1 < (↑(cellsS a1).length : Int)))
                                  (br
                                    (decide
                                      (((cellsS a1).length +
                                            [((((cellsS a1).getD x6.1.1.toNat (((0 : Int), (0 : Int)), (0 : Int))).1.1,
                                                    ((cellsS a1).getD x6.1.1.toNat (((0 : Int), (0 : Int)), (0 : Int))).1.2),
                                                  ((cellsS a1).getD x6.1.1.toNat (((0 : Int), (0 : Int)), (0 : Int))).2)].length) *
                                          (24 : Nat) ≤
                                        LIM))
                                    (br
                                      (decide
                                        ((cellsS a1).length +
                                            [((((cellsS a1).getD x6.1.1.toNat (((0 : Int), (0 : Int)), (0 : Int))).1.1,
                                                    ((cellsS a1).getD x6.1.1.toNat (((0 : Int), (0 : Int)), (0 : Int))).1.2),
                                                  ((cellsS a1).getD x6.1.1.toNat (((0 : Int), (0 : Int)), (0 : Int))).2)].length ≤
                                          LIM))
                                      (br (decide ((0 : Int) ≤ x7.1.1))
                                        (br (decide (x7.1.1 < (↑(cellsS a1).length : Int)))
                                          (br (decide ((0 : Int) ≤ x6.1.1))
                                            (br (decide (x6.1.1 < (↑(cellsS a1).length : Int)))
                                              (br (decide ((0 : Int) ≤ x6.1.1))
                                                (br (decide (x6.1.1 < (↑(cellsS a1).length : Int)))
                                                  (br (decide ((0 : Int) ≤ x7.1.1))
                                                    (br
                                                      (decide
                                                        (x7.1.1 <
                                                          (↑((cellsS a1).set x6.1.1.toNat
                                                                  ((((cellsS a1).getD x7.1.1.toNat (((0 : Int), (0 : Int)), (0 : Int))).1.1,
                                                                      ((cellsS a1).getD x7.1.1.toNat (((0 : Int), (0 : Int)), (0 : Int))).1.2),
                                                                    ((cellsS a1).getD x7.1.1.toNat (((0 : Int), (0 : Int)), (0 : Int))).2)).length :
                                                            Int)))
                                                      (bd
                                                        (grd
                                                          (lenOk
                                                            (((cellsS a1).set x6.1.1.toNat
                                                                  ((((cellsS a1).getD x7.1.1.toNat (((0 : Int), (0 : Int)), (0 : Int))).1.1,
                                                                      ((cellsS a1).getD x7.1.1.toNat (((0 : Int), (0 : Int)), (0 : Int))).1.2),
                                                                    ((cellsS a1).getD x7.1.1.toNat (((0 : Int), (0 : Int)), (0 : Int))).2)).set
                                                              x7.1.1.toNat
                                                              ((((cellsS a1).getD x6.1.1.toNat (((0 : Int), (0 : Int)), (0 : Int))).1.1,
                                                                  ((cellsS a1).getD x6.1.1.toNat (((0 : Int), (0 : Int)), (0 : Int))).1.2),
                                                                ((cellsS a1).getD x6.1.1.toNat (((0 : Int), (0 : Int)), (0 : Int))).2)))
                                                          ((bufS
                                                                (((cellsS a1).set x6.1.1.toNat
                                                                      ((((cellsS a1).getD x7.1.1.toNat (((0 : Int), (0 : Int)), (0 : Int))).1.1,
                                                                          ((cellsS a1).getD x7.1.1.toNat (((0 : Int), (0 : Int)), (0 : Int))).1.2),
                                                                        ((cellsS a1).getD x7.1.1.toNat (((0 : Int), (0 : Int)), (0 : Int))).2)).set
                                                                  x7.1.1.toNat
                                                                  ((((cellsS a1).getD x6.1.1.toNat (((0 : Int), (0 : Int)), (0 : Int))).1.1,
                                                                      ((cellsS a1).getD x6.1.1.toNat (((0 : Int), (0 : Int)), (0 : Int))).1.2),
                                                                    ((cellsS a1).getD x6.1.1.toNat (((0 : Int), (0 : Int)), (0 : Int))).2)),
                                                              ()),
                                                            (), ()))
                                                        fun (x8 : (Bool × Unit) × Unit × Unit) =>
                                                        br (x8.1.1 == (x6.1.1 == x7.1.1))
                                                          (bd
                                                            (grd
                                                              (lenOk
                                                                (cat (cellsS a1)
                                                                  [((((cellsS a1).getD x6.1.1.toNat (((0 : Int), (0 : Int)), (0 : Int))).1.1,
                                                                        ((cellsS a1).getD x6.1.1.toNat (((0 : Int), (0 : Int)), (0 : Int))).1.2),
                                                                      ((cellsS a1).getD x6.1.1.toNat (((0 : Int), (0 : Int)), (0 : Int))).2)]))
                                                              ((bufS
                                                                    (cat (cellsS a1)
                                                                      [((((cellsS a1).getD x6.1.1.toNat (((0 : Int), (0 : Int)), (0 : Int))).1.1,
                                                                            ((cellsS a1).getD x6.1.1.toNat (((0 : Int), (0 : Int)), (0 : Int))).1.2),
                                                                          ((cellsS a1).getD x6.1.1.toNat (((0 : Int), (0 : Int)), (0 : Int))).2)]),
                                                                  ()),
                                                                (), ()))
                                                            fun (x9 : (Bool × Unit) × Unit × Unit) =>
                                                            some ((!x9.1.1, ()), (), (), (), (), ()))
                                                          (some ((false, ()), (), (), (), (), ())))
                                                      none)
                                                    none)
                                                  none)
                                                none)
                                              none)
                                            none)
                                          none)
                                        none)
                                      none)
                                    none)
                                  none)
                                none)
                              none)
                            none))))))
theorem lBuffTells_rn (K : Nat) (a0 : List
  ((Int × Int) ×
    Int)) (a1 : List
  Int) (a2 : Int) (a3 : Int) : runF (cfgW g_lBuffTells) K f_lBuffTells lBuffTells_tm [.val (.slice tCell), .val (.slice tI), .val tI, .val tI] [.val .bool] (a0, a1, a2, a3, ()) = lBuffTells_P K a0 a1 a2 a3 := by kernel_rfl
abbrev g_lBuffPuts : List (Nat × Ctr O0) := [(n_awake18, c_awake18), (n_cells, c_cells), (n_span, c_span), (n_cell, c_cell), (n_lentCells, c_lentCells), (n_put, c_put), (n_bget, c_bget), (n_rbget, c_rbget), (n_rput, c_rput), (n_sameCells, c_sameCells), (n_rest, c_rest), (n_rrest, c_rrest), (n_sameSpans, c_sameSpans), (n_staysCells, c_staysCells)]
def lBuffPuts_tm : List (List (Nat × SSh O0)) := []
def lBuffPuts_P (K : Nat) (a0 : List
  Int) (a1 : (Int × Int) × Int) (a2 : Bool) (a3 : Int) : Option ((Bool × Unit) × Unit × Unit × Unit × Unit × Unit) :=
  br (!true) (some ((false, ()), (), (), (), (), ()))
  (br a2
    (bd
      (grd (decide ((cellsS a0).length < (1000000 : Nat)))
        (((lentS (((0 : Int), (0 : Int)), (7 : Int)) (cellsS a0), (cellsS a0).length), ()), (), ()))
      fun (x1 : ((List ((Int × Int) × Int) × Nat) × Unit) × Unit × Unit) =>
      bd
        (grd (lenOk (List.take x1.1.1.2 (List.drop (0 : Nat) x1.1.1.1)) && bufS (List.take x1.1.1.2 (List.drop (0 : Nat) x1.1.1.1)))
          ((putK (List.take x1.1.1.2 (List.drop (0 : Nat) x1.1.1.1)) (((cellS a3).1.1, (cellS a3).1.2), (cellS a3).2), ()), (),
            (), ()))
        fun (x2 : (List ((Int × Int) × Int) × Unit) × Unit × Unit × Unit) =>
        bd
          (grd (lenOk x2.1.1 && bufS x2.1.1)
            (((getK x2.1.1 ((cellS a3).1.1, (cellS a3).1.2)).1, (getK x2.1.1 ((cellS a3).1.1, (cellS a3).1.2)).2, ()), (), (),
              ()))
          fun (x3 : (Int × Bool × Unit) × Unit × Unit × Unit) =>
          bd
            (grd (lenOk (List.take x1.1.1.2 (List.drop (0 : Nat) x1.1.1.1)) && bufS (List.take x1.1.1.2 (List.drop (0 : Nat) x1.1.1.1)))
              (((getK (List.take x1.1.1.2 (List.drop (0 : Nat) x1.1.1.1)) ((cellS a3).1.1, (cellS a3).1.2)).1,
                  (getK (List.take x1.1.1.2 (List.drop (0 : Nat) x1.1.1.1)) ((cellS a3).1.1, (cellS a3).1.2)).2, ()),
                (), (), ()))
            fun (x4 : (Int × Bool × Unit) × Unit × Unit × Unit) =>
            bd
              (grd (lenOk (cellsS a0) && bufS (cellsS a0))
                (((getK (cellsS a0) ((cellS a3).1.1, (cellS a3).1.2)).1, (getK (cellsS a0) ((cellS a3).1.1, (cellS a3).1.2)).2, ()),
                  (), (), ()))
              fun (x5 : (Int × Bool × Unit) × Unit × Unit × Unit) =>
              bd
                (grd (lenOk (cellsS a0) && bufS (cellsS a0))
                  ((putK (cellsS a0) (((cellS a3).1.1, (cellS a3).1.2), (cellS a3).2), ()), (), (), ()))
                fun (x6 : (List ((Int × Int) × Int) × Unit) × Unit × Unit × Unit) =>
                bd (grd (decide (x2.1.1.length < (1000000 : Nat))) ((sameS x2.1.1 x6.1.1, ()), (), (), ()))
                  fun (x7 : (Bool × Unit) × Unit × Unit × Unit) =>
                  br x7.1.1
                    (br x3.1.2.1
                      (br (x3.1.1 == (cellS a3).2)
                        (br (x4.1.1 == x5.1.1)
                          (br (x4.1.2.1 == x5.1.2.1)
                            (bd
                              (grd
                                (lenOk (List.take x1.1.1.2 (List.drop (0 : Nat) x1.1.1.1)) &&
                                  (bufS (List.take x1.1.1.2 (List.drop (0 : Nat) x1.1.1.1)) && spanR ((spanS a3).1, (spanS a3).2.1, (spanS a3).2.2)))
                                ((restS (List.take x1.1.1.2 (List.drop (0 : Nat) x1.1.1.1)) ((spanS a3).1, (spanS a3).2.1, (spanS a3).2.2),
                                    ()),
                                  (), (), ()))
                              fun (x8 : (List (Int × Int × Int) × Unit) × Unit × Unit × Unit) =>
                              bd
                                (grd (lenOk (cellsS a0) && (bufS (cellsS a0) && spanR ((spanS a3).1, (spanS a3).2.1, (spanS a3).2.2)))
                                  ((restS (cellsS a0) ((spanS a3).1, (spanS a3).2.1, (spanS a3).2.2), ()), (), (),
                                    ()))
                                fun (x9 : (List (Int × Int × Int) × Unit) × Unit × Unit × Unit) =>
                                bd
                                  (grd (decide (x8.1.1.length < (1000000 : Nat)))
                                    ((sameS x8.1.1 x9.1.1, ()), (), (), ()))
                                  fun (x10 : (Bool × Unit) × Unit × Unit × Unit) =>
                                  br x10.1.1
                                    (bd
                                      (grd
                                        (staysS (((0 : Int), (0 : Int)), (7 : Int)) x1.1.1.1 x1.1.1.2 (cellsS a0) &&
                                          decide ((cellsS a0).length < (1000000 : Nat)))
                                        ((true, ()), x1.1.1.1, (), ()))
                                      fun (x11 : (Bool × Unit) × List ((Int × Int) × Int) × Unit × Unit) =>
                                      some ((x11.1.1, ()), (), (), (), (), ()))
                                    (some ((false, ()), (), (), (), (), ())))
                            (some ((false, ()), (), (), (), (), ())))
                          (some ((false, ()), (), (), (), (), ())))
                        (some ((false, ()), (), (), (), (), ())))
                      (some ((false, ()), (), (), (), (), ())))
                    (some ((false, ()), (), (), (), (), ())))
    (bd
      (grd (decide ((cellsS a0).length < (1000000 : Nat)))
        (((lentS (((0 : Int), (0 : Int)), (7 : Int)) (cellsS a0), (cellsS a0).length), ()), (), ()))
      fun (x12 : ((List ((Int × Int) × Int) × Nat) × Unit) × Unit × Unit) =>
      bd
        (grd (lenOk (List.take x12.1.1.2 (List.drop (0 : Nat) x12.1.1.1)) && bufS (List.take x12.1.1.2 (List.drop (0 : Nat) x12.1.1.1)))
          ((putK (List.take x12.1.1.2 (List.drop (0 : Nat) x12.1.1.1)) ((a1.1.1, a1.1.2), a1.2), ()), (), (), ()))
        fun (x13 : (List ((Int × Int) × Int) × Unit) × Unit × Unit × Unit) =>
        bd
          (grd (lenOk x13.1.1 && bufS x13.1.1)
            (((getK x13.1.1 (a1.1.1, a1.1.2)).1, (getK x13.1.1 (a1.1.1, a1.1.2)).2, ()), (), (), ()))
          fun (x14 : (Int × Bool × Unit) × Unit × Unit × Unit) =>
          bd
            (grd (lenOk (List.take x12.1.1.2 (List.drop (0 : Nat) x12.1.1.1)) && bufS (List.take x12.1.1.2 (List.drop (0 : Nat) x12.1.1.1)))
              (((getK (List.take x12.1.1.2 (List.drop (0 : Nat) x12.1.1.1)) (a1.1.1, a1.1.2)).1,
                  (getK (List.take x12.1.1.2 (List.drop (0 : Nat) x12.1.1.1)) (a1.1.1, a1.1.2)).2, ()),
                (), (), ()))
            fun (x15 : (Int × Bool × Unit) × Unit × Unit × Unit) =>
            bd
              (grd (lenOk (cellsS a0) && bufS (cellsS a0))
                (((getK (cellsS a0) (a1.1.1, a1.1.2)).1, (getK (cellsS a0) (a1.1.1, a1.1.2)).2, ()), (), (), ()))
              fun (x16 : (Int × Bool × Unit) × Unit × Unit × Unit) =>
              bd
                (grd (lenOk (cellsS a0) && bufS (cellsS a0))
                  ((putK (cellsS a0) ((a1.1.1, a1.1.2), a1.2), ()), (), (), ()))
                fun (x17 : (List ((Int × Int) × Int) × Unit) × Unit × Unit × Unit) =>
                bd (grd (decide (x13.1.1.length < (1000000 : Nat))) ((sameS x13.1.1 x17.1.1, ()), (), (), ()))
                  fun (x18 : (Bool × Unit) × Unit × Unit × Unit) =>
                  br x18.1.1
                    (br x14.1.2.1
                      (br (x14.1.1 == a1.2)
                        (br (x15.1.1 == x16.1.1)
                          (br (x15.1.2.1 == x16.1.2.1)
                            (bd
                              (grd
                                (lenOk (List.take x12.1.1.2 (List.drop (0 : Nat) x12.1.1.1)) &&
                                  (bufS (List.take x12.1.1.2 (List.drop (0 : Nat) x12.1.1.1)) &&
                                    spanR ((spanS a3).1, (spanS a3).2.1, (spanS a3).2.2)))
                                ((restS (List.take x12.1.1.2 (List.drop (0 : Nat) x12.1.1.1)) ((spanS a3).1, (spanS a3).2.1, (spanS a3).2.2),
                                    ()),
                                  (), (), ()))
                              fun (x19 : (List (Int × Int × Int) × Unit) × Unit × Unit × Unit) =>
                              bd
                                (grd (lenOk (cellsS a0) && (bufS (cellsS a0) && spanR ((spanS a3).1, (spanS a3).2.1, (spanS a3).2.2)))
                                  ((restS (cellsS a0) ((spanS a3).1, (spanS a3).2.1, (spanS a3).2.2), ()), (), (),
                                    ()))
                                fun (x20 : (List (Int × Int × Int) × Unit) × Unit × Unit × Unit) =>
                                bd
                                  (grd (decide (x19.1.1.length < (1000000 : Nat)))
                                    ((sameS x19.1.1 x20.1.1, ()), (), (), ()))
                                  fun (x21 : (Bool × Unit) × Unit × Unit × Unit) =>
                                  br x21.1.1
                                    (bd
                                      (grd
                                        (staysS (((0 : Int), (0 : Int)), (7 : Int)) x12.1.1.1 x12.1.1.2 (cellsS a0) &&
                                          decide ((cellsS a0).length < (1000000 : Nat)))
                                        ((true, ()), x12.1.1.1, (), ()))
                                      fun (x22 : (Bool × Unit) × List ((Int × Int) × Int) × Unit × Unit) =>
                                      some ((x22.1.1, ()), (), (), (), (), ()))
                                    (some ((false, ()), (), (), (), (), ())))
                            (some ((false, ()), (), (), (), (), ())))
                          (some ((false, ()), (), (), (), (), ())))
                        (some ((false, ()), (), (), (), (), ())))
                      (some ((false, ()), (), (), (), (), ())))
                    (some ((false, ()), (), (), (), (), ()))))
theorem lBuffPuts_rn (K : Nat) (a0 : List
  Int) (a1 : (Int × Int) ×
  Int) (a2 : Bool) (a3 : Int) : runF (cfgW g_lBuffPuts) K f_lBuffPuts lBuffPuts_tm [.val (.slice tI), .val tCell, .val .bool, .val tI] [.val .bool] (a0, a1, a2, a3, ()) = lBuffPuts_P K a0 a1 a2 a3 := by kernel_rfl
abbrev g_lBuffRests : List (Nat × Ctr O0) := [(n_awake18, c_awake18), (n_cells, c_cells), (n_span, c_span), (n_key, c_key), (n_rest, c_rest), (n_bget, c_bget), (n_rhas, c_rhas), (n_rcanon, c_rcanon), (n_rsize, c_rsize)]
def lBuffRests_tm : List (List (Nat × SSh O0)) := [[((7 : Nat), SSh.one (CSh.own (((Ty.int IntKind.i64).pair (Ty.int IntKind.i64)).pair (Ty.int IntKind.u16)))),
    ((8 : Nat), SSh.box [CSh.int IntKind.i64, CSh.int IntKind.i64, CSh.int IntKind.i64]),
    ((9 : Nat), SSh.box [CSh.int IntKind.i64, CSh.int IntKind.i64]),
    ((10 : Nat), SSh.one (CSh.own ((Ty.int IntKind.i64).pair ((Ty.int IntKind.i64).pair (Ty.int IntKind.i64))))), ((12 : Nat), SSh.one CSh.bool),
    ((13 : Nat), SSh.one (CSh.int IntKind.i64)), ((14 : Nat), SSh.one (CSh.int IntKind.i64))]]
def lBuffRests_L1 (rec3 : List ((Int × Int) × Int) ×
    (Int × Int × Int × Unit) × (Int × Int × Unit) × List (Int × Int × Int) × Bool × Int × Int × Unit →
  Option
    ((Bool × Unit) ×
      Unit ×
        Unit ×
          Unit ×
            Unit)) : List ((Int × Int) × Int) × (Int × Int × Int × Unit) × (Int × Int × Unit) × List (Int × Int × Int) × Bool × Int × Int × Unit →
  Option ((Bool × Unit) × Unit × Unit × Unit × Unit) := fun (y5, y6, y7, y8, y9, y10, y11, ()) =>
  br (decide (y11 < (↑y5.length : Int)))
  (br (decide ((0 : Int) ≤ y11))
    (br (decide (y11 < (↑y5.length : Int)))
      (bd
        (grd (lenOk [(y6.1, y6.2.1, y6.2.2.1)])
          ((hasS [(y6.1, y6.2.1, y6.2.2.1)]
                ((y5.getD y11.toNat (((0 : Int), (0 : Int)), (0 : Int))).1.1, (y5.getD y11.toNat (((0 : Int), (0 : Int)), (0 : Int))).1.2),
              ()),
            (), (), ()))
        fun (x12 : (Bool × Unit) × Unit × Unit × Unit) =>
        br x12.1.1
          (rec3
            (y5, (y6.1, y6.2.1, y6.2.2.1, ()), (y7.1, y7.2.1, ()), y8, y9, IntKind.i64.wrap (y10 + (1 : Int)),
              IntKind.i64.wrap (y11 + (1 : Int)), ()))
          (rec3 (y5, (y6.1, y6.2.1, y6.2.2.1, ()), (y7.1, y7.2.1, ()), y8, y9, y10, IntKind.i64.wrap (y11 + (1 : Int)), ())))
      none)
    none)
  (bd (grd (lenOk y8) ((canonS y8, ()), (), ())) fun (x13 : (Bool × Unit) × Unit × Unit) =>
    br x13.1.1
      (bd (grd (lenOk y8) ((hasS y8 (y7.1, y7.2.1), ()), (), (), ()))
        fun (x14 : (Bool × Unit) × Unit × Unit × Unit) =>
        bd (grd (lenOk [(y6.1, y6.2.1, y6.2.2.1)]) ((hasS [(y6.1, y6.2.1, y6.2.2.1)] (y7.1, y7.2.1), ()), (), (), ()))
          fun (x15 : (Bool × Unit) × Unit × Unit × Unit) =>
          br x15.1.1
            (br (x14.1.1 == !y9)
              (bd (grd (lenOk y8 && spnOk y8) ((sizeS y8, ()), (), ())) fun (x16 : (Int × Unit) × Unit × Unit) =>
                some
                  ((x16.1.1 == IntKind.i64.wrap (IntKind.i64.wrap (y6.2.2.1 - y6.2.1) - y10), ()), (), (), (),
                    ()))
              (some ((false, ()), (), (), (), ())))
            (br (x14.1.1 == false)
              (bd (grd (lenOk y8 && spnOk y8) ((sizeS y8, ()), (), ())) fun (x17 : (Int × Unit) × Unit × Unit) =>
                some
                  ((x17.1.1 == IntKind.i64.wrap (IntKind.i64.wrap (y6.2.2.1 - y6.2.1) - y10), ()), (), (), (),
                    ()))
              (some ((false, ()), (), (), (), ()))))
      (some ((false, ()), (), (), (), ())))
def lBuffRests_P (K : Nat) (a0 : List Int) (a1 : Int) (a2 : Int) : Option ((Bool × Unit) × Unit × Unit × Unit × Unit) :=
  br (!true) (some ((false, ()), (), (), (), ()))
  (bd
    (grd (lenOk (cellsS a0) && (bufS (cellsS a0) && spanR ((spanS a1).1, (spanS a1).2.1, (spanS a1).2.2)))
      ((restS (cellsS a0) ((spanS a1).1, (spanS a1).2.1, (spanS a1).2.2), ()), (), (), ()))
    fun (x1 : (List (Int × Int × Int) × Unit) × Unit × Unit × Unit) =>
    bd
      (grd (lenOk (cellsS a0) && bufS (cellsS a0))
        (((getK (cellsS a0) ((keyS a2).1, (keyS a2).2)).1, (getK (cellsS a0) ((keyS a2).1, (keyS a2).2)).2, ()), (), (),
          ()))
      fun (x2 : (Int × Bool × Unit) × Unit × Unit × Unit) =>
      loopN lBuffRests_L1 K
        (cellsS a0, ((spanS a1).1, (spanS a1).2.1, (spanS a1).2.2, ()), ((keyS a2).1, (keyS a2).2, ()), x1.1.1, x2.1.2.1, (0 : Int),
          (0 : Int), ()))
theorem lBuffRests_rn (K : Nat) (a0 : List
  Int) (a1 : Int) (a2 : Int) : runF (cfgW g_lBuffRests) K f_lBuffRests lBuffRests_tm [.val (.slice tI), .val tI, .val tI] [.val .bool] (a0, a1, a2, ()) = lBuffRests_P K a0 a1 a2 := by kernel_rfl
abbrev g_lBuffOrders : List (Nat × Ctr O0) := [(n_awake18, c_awake18), (n_cell, c_cell), (n_put, c_put), (n_within, c_within), (n_bget, c_bget), (n_sameCells, c_sameCells), (n_bright, c_bright)]
def lBuffOrders_tm : List (List (Nat × SSh O0)) := [[((0 : Nat), SSh.one (CSh.ro (Ty.int IntKind.i64))), ((1 : Nat), SSh.one (CSh.int IntKind.i64)),
    ((5 : Nat), SSh.one (CSh.own (((Ty.int IntKind.i64).pair (Ty.int IntKind.i64)).pair (Ty.int IntKind.u16)))), ((6 : Nat), SSh.one CSh.nil),
    ((7 : Nat), SSh.one (CSh.int IntKind.i64))],
  [((0 : Nat), SSh.one (CSh.ro (Ty.int IntKind.i64))), ((1 : Nat), SSh.one (CSh.int IntKind.i64)),
    ((5 : Nat), SSh.one (CSh.own (((Ty.int IntKind.i64).pair (Ty.int IntKind.i64)).pair (Ty.int IntKind.u16)))),
    ((6 : Nat), SSh.one (CSh.own (((Ty.int IntKind.i64).pair (Ty.int IntKind.i64)).pair (Ty.int IntKind.u16)))),
    ((8 : Nat), SSh.one (CSh.int IntKind.i64))]]
def lBuffOrders_L1 (rec9 : List Int × Int × List ((Int × Int) × Int) × List ((Int × Int) × Int) × Int × Unit →
  Option
    ((Bool × Unit) ×
      Unit ×
        Unit ×
          Unit)) : List Int × Int × List ((Int × Int) × Int) × List ((Int × Int) × Int) × Int × Unit →
  Option ((Bool × Unit) × Unit × Unit × Unit) := fun (y11, y12, y13, y14, y15, ()) =>
  br (decide (y15 < (↑y13.length : Int)))
  (bd (grd (true && decide ((12 : Int) < (4611686018427387904 : Int))) ((y12 % (12 : Int), ()), (), (), ()))
    fun (x16 : (Int × Unit) × Unit × Unit × Unit) =>
    bd
      (grd (decide ((0 : Int) < (↑y13.length : Int)) && decide ((↑y13.length : Int) < (4611686018427387904 : Int)))
        ((IntKind.i64.wrap (x16.1.1 + y15) % (↑y13.length : Int), ()), (), (), ()))
      fun (x17 : (Int × Unit) × Unit × Unit × Unit) =>
      br (decide ((0 : Int) ≤ x17.1.1))
        (br (decide (x17.1.1 < (↑y13.length : Int)))
          (bd
            (grd (lenOk y14 && bufS y14)
              ((putK y14
                    (((y13.getD x17.1.1.toNat (((0 : Int), (0 : Int)), (0 : Int))).1.1,
                        (y13.getD x17.1.1.toNat (((0 : Int), (0 : Int)), (0 : Int))).1.2),
                      IntKind.u16.wrap ((y13.getD x17.1.1.toNat (((0 : Int), (0 : Int)), (0 : Int))).2 + (1 : Int))),
                  ()),
                (), (), ()))
            fun (x18 : (List ((Int × Int) × Int) × Unit) × Unit × Unit × Unit) =>
            bd
              (grd (lenOk x18.1.1 && bufS x18.1.1)
                ((putK x18.1.1
                      (((y13.getD x17.1.1.toNat (((0 : Int), (0 : Int)), (0 : Int))).1.1,
                          (y13.getD x17.1.1.toNat (((0 : Int), (0 : Int)), (0 : Int))).1.2),
                        (y13.getD x17.1.1.toNat (((0 : Int), (0 : Int)), (0 : Int))).2),
                    ()),
                  (), (), ()))
              fun (x19 : (List ((Int × Int) × Int) × Unit) × Unit × Unit × Unit) =>
              rec9 (y11, y12, y13, x19.1.1, IntKind.i64.wrap (y15 + (1 : Int)), ()))
          none)
        none)
  (br (!(↑y11.length : Int) == (0 : Int))
    (br (decide ((0 : Int) ≤ IntKind.i64.wrap ((↑y11.length : Int) - (1 : Int))))
      (br (decide (IntKind.i64.wrap ((↑y11.length : Int) - (1 : Int)) < (↑y11.length : Int)))
        (bd
          (grd (lenOk y13 && bufS y13)
            (((getK y13
                    ((cellS (y11.getD (IntKind.i64.wrap ((↑y11.length : Int) - (1 : Int))).toNat (0 : Int))).1.1,
                      (cellS (y11.getD (IntKind.i64.wrap ((↑y11.length : Int) - (1 : Int))).toNat (0 : Int))).1.2)).1,
                (getK y13
                    ((cellS (y11.getD (IntKind.i64.wrap ((↑y11.length : Int) - (1 : Int))).toNat (0 : Int))).1.1,
                      (cellS (y11.getD (IntKind.i64.wrap ((↑y11.length : Int) - (1 : Int))).toNat (0 : Int))).1.2)).2,
                ()),
              (), (), ()))
          fun (x20 : (Int × Bool × Unit) × Unit × Unit × Unit) =>
          br x20.1.2.1
            (bd (grd (decide (y13.length < (1000000 : Nat))) ((sameS y13 y14, ()), (), (), ()))
              fun (x21 : (Bool × Unit) × Unit × Unit × Unit) =>
              br x21.1.1
                (bd (grd (lenOk y13) ((bufS y13, ()), (), ())) fun (x22 : (Bool × Unit) × Unit × Unit) =>
                  br x22.1.1
                    (some
                      ((x20.1.1 == (cellS (y11.getD (IntKind.i64.wrap ((↑y11.length : Int) - (1 : Int))).toNat (0 : Int))).2, ()), (),
                        (), ()))
                    (some ((false, ()), (), (), ())))
                (some ((false, ()), (), (), ())))
            (bd (grd (decide (y13.length < (1000000 : Nat))) ((sameS y13 y14, ()), (), (), ()))
              fun (x23 : (Bool × Unit) × Unit × Unit × Unit) =>
              br x23.1.1
                (bd (grd (lenOk y13) ((bufS y13, ()), (), ())) fun (x24 : (Bool × Unit) × Unit × Unit) =>
                  br x24.1.1 (some ((false, ()), (), (), ()))
                    (some ((false, ()), (), (), ())))
                (some ((false, ()), (), (), ()))))
        none)
      none)
    (bd (grd (decide (y13.length < (1000000 : Nat))) ((sameS y13 y14, ()), (), (), ()))
      fun (x25 : (Bool × Unit) × Unit × Unit × Unit) =>
      br x25.1.1
        (bd (grd (lenOk y13) ((bufS y13, ()), (), ())) fun (x26 : (Bool × Unit) × Unit × Unit) =>
          br x26.1.1 (some (((↑y11.length : Int) == (0 : Int), ()), (), (), ()))
            (some ((false, ()), (), (), ())))
        (some ((false, ()), (), (), ()))))
def lBuffOrders_L2 (K : Nat) (rec1 : List Int × Int × List ((Int × Int) × Int) × Unit × Int × Unit →
  Option
    ((Bool × Unit) ×
      Unit ×
        Unit ×
          Unit)) : List Int × Int × List ((Int × Int) × Int) × Unit × Int × Unit →
  Option ((Bool × Unit) × Unit × Unit × Unit) := fun (y3, y4, y5, y6, y7, ()) =>
  br (decide (y7 < (↑y3.length : Int)))
  (br (decide ((0 : Int) ≤ y7))
    (br (decide (y7 < (↑y3.length : Int)))
      (bd
        (grd (lenOk y5 && bufS y5)
          ((putK y5 (((cellS (y3.getD y7.toNat (0 : Int))).1.1, (cellS (y3.getD y7.toNat (0 : Int))).1.2), (cellS (y3.getD y7.toNat (0 : Int))).2),
              ()),
            (), (), ()))
        fun (x8 : (List ((Int × Int) × Int) × Unit) × Unit × Unit × Unit) =>
        rec1 (y3, y4, x8.1.1, (), IntKind.i64.wrap (y7 + (1 : Int)), ()))
      none)
    none)
  (loopN lBuffOrders_L1 K (y3, y4, y5, [], (0 : Int), ()))
def lBuffOrders_P (K : Nat) (a0 : List Int) (a1 : Int) : Option ((Bool × Unit) × Unit × Unit × Unit) :=
  br (decide ((↑a0.length : Int) > (12 : Int))) (some ((true, ()), (), (), ()))
  (br (!true) (some ((true, ()), (), (), ()))
    (loopN (lBuffOrders_L2 K) K (a0, a1, [], (), (0 : Int), ())))
theorem lBuffOrders_rn (K : Nat) (a0 : List
  Int) (a1 : Int) : runF (cfgW g_lBuffOrders) K f_lBuffOrders lBuffOrders_tm [.val (.slice tI), .val tI] [.val .bool] (a0, a1, ()) = lBuffOrders_P K a0 a1 := by kernel_rfl
abbrev g_lBuffLays : List (Nat × Ctr O0) := [(n_awake18, c_awake18), (n_lentWords, c_lentWords), (n_lay, c_lay), (n_bright, c_bright), (n_staysWords, c_staysWords)]
def lBuffLays_tm : List (List (Nat × SSh O0)) := [[((1 : Nat), SSh.one (CSh.ro (Ty.int IntKind.u16))), ((2 : Nat), SSh.box [CSh.int IntKind.i64, CSh.int IntKind.i64]),
    ((6 : Nat), SSh.one (CSh.own (((Ty.int IntKind.i64).pair (Ty.int IntKind.i64)).pair (Ty.int IntKind.u16)))),
    ((7 : Nat), SSh.one (CSh.int IntKind.i64))]]
def lBuffLays_L1 (rec5 : List Int × (Int × Int × Unit) × List ((Int × Int) × Int) × Int × Unit →
  Option
    ((Bool × Unit) ×
      Unit ×
        Unit ×
          Unit)) : List Int × (Int × Int × Unit) × List ((Int × Int) × Int) × Int × Unit →
  Option ((Bool × Unit) × Unit × Unit × Unit) := fun (y7, y8, y9, y10, ()) =>
  br (decide (y10 < (↑y9.length : Int)))
  (br (decide ((0 : Int) ≤ y10))
    (br (decide (y10 < (↑y9.length : Int)))
      (br (decide ((0 : Int) ≤ y10))
        (br (decide (y10 < (↑y7.length : Int)))
          (br
            (!((y9.getD y10.toNat (((0 : Int), (0 : Int)), (0 : Int))).1.1 == y8.1 &&
                  (y9.getD y10.toNat (((0 : Int), (0 : Int)), (0 : Int))).1.2 == IntKind.i64.wrap (y8.2.1 + y10) &&
                (y9.getD y10.toNat (((0 : Int), (0 : Int)), (0 : Int))).2 == y7.getD y10.toNat (0 : Int)))
            (some ((false, ()), (), (), ()))
            (rec5 (y7, (y8.1, y8.2.1, ()), y9, IntKind.i64.wrap (y10 + (1 : Int)), ())))
          none)
        none)
      none)
    none)
  (some ((true, ()), (), (), ()))
def lBuffLays_P (K : Nat) (a0 : Int × Int) (a1 : List Int) : Option ((Bool × Unit) × Unit × Unit × Unit) :=
  br (decide ((↑a1.length : Int) > (60 : Int))) (some ((true, ()), (), (), ()))
  (br (decide (a0.2 > (1099511627776 : Int))) (some ((true, ()), (), (), ()))
    (br (!true) (some ((true, ()), (), (), ()))
      (bd (grd (decide (a1.length < (1000000 : Nat))) (((lentS (42405 : Int) a1, a1.length), ()), (), ()))
        fun (x1 : ((List Int × Nat) × Unit) × Unit × Unit) =>
        bd
          (grd
            (lenOk (List.take x1.1.1.2 (List.drop (0 : Nat) x1.1.1.1)) &&
              (decide ((-9223372036854775808 : Int) ≤ a0.2) && decide (a0.2 ≤ (9223372036853775807 : Int))))
            ((layFrom a0.1 a0.2 (List.take x1.1.1.2 (List.drop (0 : Nat) x1.1.1.1)), ()), (), (), ()))
          fun (x2 : (List ((Int × Int) × Int) × Unit) × Unit × Unit × Unit) =>
          br ((↑x2.1.1.length : Int) != (↑a1.length : Int)) (some ((false, ()), (), (), ()))
            (bd (grd (lenOk x2.1.1) ((bufS x2.1.1, ()), (), ())) fun (x3 : (Bool × Unit) × Unit × Unit) =>
              br (!x3.1.1) (some ((false, ()), (), (), ()))
                (bd
                  (grd (staysS (42405 : Int) x1.1.1.1 x1.1.1.2 a1 && decide (a1.length < (1000000 : Nat)))
                    ((true, ()), x1.1.1.1, (), ()))
                  fun (x4 : (Bool × Unit) × List Int × Unit × Unit) =>
                  br (!x4.1.1) (some ((false, ()), (), (), ()))
                    (loopN lBuffLays_L1 K (a1, (a0.1, a0.2, ()), x2.1.1, (0 : Int), ())))))))
theorem lBuffLays_rn (K : Nat) (a0 : Int ×
  Int) (a1 : List
  Int) : runF (cfgW g_lBuffLays) K f_lBuffLays lBuffLays_tm [.val tKey, .val (.slice tW)] [.val .bool] (a0, a1, ()) = lBuffLays_P K a0 a1 := by kernel_rfl
abbrev g_awake18 : List (Nat × Ctr O0) := [(n_rest, c_rest)]
theorem awake18_rn : runF (cfgW g_awake18) 3 f_awake18 [] [] [.val .bool] () = some ((true, ()), ()) := by kernel_rfl
end
end Go.BB
