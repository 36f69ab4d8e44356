/- A symbolic machine for the model's code, and what it shows of this seat's functions. No conditions. -/
import Derived.Test.YtnofmeckcimodaaBN
import Derived.Test.YtnofmeckcimodaaBGstore3
set_option linter.unusedSimpArgs false
set_option linter.unusedVariables false
namespace Go.BB
open Go Go.Proofs
set_option maxRecDepth 100000
set_option exponentiation.threshold 100000
noncomputable section
abbrev g_lStoreOrders : List (Nat × Ctr O0) := [(n_awake17, c_awake17), (n_cells, c_cells), (n_within, c_within), (n_stNew, c_stNew), (n_stInstall, c_stInstall), (n_stLast, c_stLast), (n_stVersions, c_stVersions), (n_stKeys, c_stKeys), (n_stRead, c_stRead)]
def lStoreOrders_tm : List Tm := [[((1 : Nat), none, Sh.val (Ty.int IntKind.i64)), ((2 : Nat), none, Sh.val (Ty.int IntKind.i64)),
    ((7 : Nat), none, Sh.own (((Ty.int IntKind.i64).pair (Ty.int IntKind.i64)).pair (Ty.int IntKind.u16))),
    ((8 : Nat), none,
      ((Sh.val (Ty.int IntKind.u64)).cons
          ((Sh.val (Ty.int IntKind.i64)).cons
            ((Sh.val (Ty.int IntKind.i64)).cons
              ((Sh.map (MapK.mapS ((Ty.int IntKind.i64).pair (Ty.int IntKind.i64)) ((Ty.int IntKind.u64).pair (Ty.int IntKind.u16)))).cons
                Sh.unit)))).ptr),
    ((9 : Nat), none,
      ((Sh.val (Ty.int IntKind.u64)).cons
          ((Sh.val (Ty.int IntKind.i64)).cons
            ((Sh.val (Ty.int IntKind.i64)).cons
              ((Sh.map (MapK.mapS ((Ty.int IntKind.i64).pair (Ty.int IntKind.i64)) ((Ty.int IntKind.u64).pair (Ty.int IntKind.u16)))).cons
                Sh.unit)))).ptr),
    ((10 : Nat), none, Sh.own (((Ty.int IntKind.i64).pair (Ty.int IntKind.i64)).pair (Ty.int IntKind.u16))),
    ((11 : Nat), none, Sh.val (Ty.int IntKind.i64))],
  [((7 : Nat), none, Sh.own (((Ty.int IntKind.i64).pair (Ty.int IntKind.i64)).pair (Ty.int IntKind.u16))),
    ((8 : Nat), none,
      ((Sh.val (Ty.int IntKind.u64)).cons
          ((Sh.val (Ty.int IntKind.i64)).cons
            ((Sh.val (Ty.int IntKind.i64)).cons
              ((Sh.map (MapK.mapS ((Ty.int IntKind.i64).pair (Ty.int IntKind.i64)) ((Ty.int IntKind.u64).pair (Ty.int IntKind.u16)))).cons
                Sh.unit)))).ptr),
    ((9 : Nat), none,
      ((Sh.val (Ty.int IntKind.u64)).cons
          ((Sh.val (Ty.int IntKind.i64)).cons
            ((Sh.val (Ty.int IntKind.i64)).cons
              ((Sh.map (MapK.mapS ((Ty.int IntKind.i64).pair (Ty.int IntKind.i64)) ((Ty.int IntKind.u64).pair (Ty.int IntKind.u16)))).cons
                Sh.unit)))).ptr),
    ((19 : Nat), none, Sh.val (Ty.int IntKind.i64))]]
def lStoreOrders_L1 (rec16 : List ((Int × Int) × Int) ×
    (Int × Int × Int × List ((Int × Int) × List (Int × Int)) × Unit) ×
      (Int × Int × Int × List ((Int × Int) × List (Int × Int)) × Unit) × Int × Unit →
  Option
    ((Bool × Unit) ×
      Unit ×
        Unit ×
          Unit ×
            Unit)) : List ((Int × Int) × Int) ×
    (Int × Int × Int × List ((Int × Int) × List (Int × Int)) × Unit) ×
      (Int × Int × Int × List ((Int × Int) × List (Int × Int)) × Unit) × Int × Unit →
  Option ((Bool × Unit) × Unit × Unit × Unit × Unit) := fun (y18, y19, y20, y21, ()) =>
  br (decide (y21 < (↑y18.length : Int)))
  (br (decide ((0 : Int) ≤ y21))
    (br (decide (y21 < (↑y18.length : Int)))
      (bd
        (grd (stoOk (y19.1, y19.2.1, y19.2.2.1, y19.2.2.2.1, ()))
          ((atV
                (chnOf y19.2.2.2.1
                  ((y18.getD y21.toNat (((0 : Int), (0 : Int)), (0 : Int))).1.1, (y18.getD y21.toNat (((0 : Int), (0 : Int)), (0 : Int))).1.2))
                (1 : Int),
              ()),
            (y19.1, y19.2.1, y19.2.2.1, y19.2.2.2.1, ()), (), (), ()))
        fun (x22 : (Int × Unit) × (Int × Int × Int × List ((Int × Int) × List (Int × Int)) × Unit) × Unit × Unit × Unit) =>
        br (decide ((0 : Int) ≤ y21))
          (br (decide (y21 < (↑y18.length : Int)))
            (br (x22.1.1 != (y18.getD y21.toNat (((0 : Int), (0 : Int)), (0 : Int))).2)
              (some ((false, ()), (), (), (), ()))
              (br (decide ((0 : Int) ≤ y21))
                (br (decide (y21 < (↑y18.length : Int)))
                  (bd
                    (grd (stoOk (y20.1, y20.2.1, y20.2.2.1, y20.2.2.2.1, ()))
                      ((atV
                            (chnOf y20.2.2.2.1
                              ((y18.getD y21.toNat (((0 : Int), (0 : Int)), (0 : Int))).1.1,
                                (y18.getD y21.toNat (((0 : Int), (0 : Int)), (0 : Int))).1.2))
                            (1 : Int),
                          ()),
                        (y20.1, y20.2.1, y20.2.2.1, y20.2.2.2.1, ()), (), (), ()))
                    fun (x23 : (Int × Unit) × (Int × Int × Int × List ((Int × Int) × List (Int × Int)) × Unit) × Unit × Unit × Unit) =>
                    br (decide ((0 : Int) ≤ y21))
                      (br (decide (y21 < (↑y18.length : Int)))
                        (br (x23.1.1 != (y18.getD y21.toNat (((0 : Int), (0 : Int)), (0 : Int))).2)
                          (some ((false, ()), (), (), (), ()))
                          (rec16
                            (y18, (x22.2.1.1, x22.2.1.2.1, x22.2.1.2.2.1, x22.2.1.2.2.2.1, ()),
                              (x23.2.1.1, x23.2.1.2.1, x23.2.1.2.2.1, x23.2.1.2.2.2.1, ()), IntKind.i64.wrap (y21 + (1 : Int)), ())))
                        none)
                      none)
                  none)
                none))
            none)
          none)
      none)
    none)
  (br (y19.2.1 == (↑y18.length : Int)) (some ((y20.2.1 == (↑y18.length : Int), ()), (), (), (), ()))
    (some ((false, ()), (), (), (), ())))
def lStoreOrders_L2 (K : Nat) (rec1 : Int ×
    Int ×
      List ((Int × Int) × Int) ×
        (Int × Int × Int × List ((Int × Int) × List (Int × Int)) × Unit) ×
          (Int × Int × Int × List ((Int × Int) × List (Int × Int)) × Unit) × List ((Int × Int) × Int) × Int × Unit →
  Option
    ((Bool × Unit) ×
      Unit ×
        Unit ×
          Unit ×
            Unit)) : Int ×
    Int ×
      List ((Int × Int) × Int) ×
        (Int × Int × Int × List ((Int × Int) × List (Int × Int)) × Unit) ×
          (Int × Int × Int × List ((Int × Int) × List (Int × Int)) × Unit) × List ((Int × Int) × Int) × Int × Unit →
  Option ((Bool × Unit) × Unit × Unit × Unit × Unit) := fun (y3, y4, y5, y6, y7, y8, y9, ()) =>
  br (decide (y9 < (↑y5.length : Int)))
  (bd (grd (true && decide ((20 : Int) < (4611686018427387904 : Int))) ((y3 % (20 : Int), ()), (), (), ()))
    fun (x10 : (Int × Unit) × Unit × Unit × Unit) =>
    bd
      (grd (decide ((0 : Int) < (↑y5.length : Int)) && decide ((↑y5.length : Int) < (4611686018427387904 : Int)))
        ((IntKind.i64.wrap (x10.1.1 + y9) % (↑y5.length : Int), ()), (), (), ()))
      fun (x11 : (Int × Unit) × Unit × Unit × Unit) =>
      br (decide ((0 : Int) ≤ x11.1.1))
        (br (decide (x11.1.1 < (↑y5.length : Int)))
          (br
            (decide
              ((y8.length +
                    [(((y5.getD x11.1.1.toNat (((0 : Int), (0 : Int)), (0 : Int))).1.1,
                            (y5.getD x11.1.1.toNat (((0 : Int), (0 : Int)), (0 : Int))).1.2),
                          (y5.getD x11.1.1.toNat (((0 : Int), (0 : Int)), (0 : Int))).2)].length) *
                  (24 : Nat) ≤
                LIM))
            (br
              (decide
                (y8.length +
                    [(((y5.getD x11.1.1.toNat (((0 : Int), (0 : Int)), (0 : Int))).1.1,
                            (y5.getD x11.1.1.toNat (((0 : Int), (0 : Int)), (0 : Int))).1.2),
                          (y5.getD x11.1.1.toNat (((0 : Int), (0 : Int)), (0 : Int))).2)].length ≤
                  LIM))
              (rec1
                (y3, y4, y5, (y6.1, y6.2.1, y6.2.2.1, y6.2.2.2.1, ()), (y7.1, y7.2.1, y7.2.2.1, y7.2.2.2.1, ()),
                  cat y8
                    [(((y5.getD x11.1.1.toNat (((0 : Int), (0 : Int)), (0 : Int))).1.1,
                          (y5.getD x11.1.1.toNat (((0 : Int), (0 : Int)), (0 : Int))).1.2),
                        (y5.getD x11.1.1.toNat (((0 : Int), (0 : Int)), (0 : Int))).2)],
                  IntKind.i64.wrap (y9 + (1 : Int)), ()))
              none)
            none)
          none)
        none)
  (bd
    (grd (stoOk (y6.1, y6.2.1, y6.2.2.1, y6.2.2.2.1, ()) && lenOk y5)
      (((instS (y6.1, y6.2.1, y6.2.2.1, y6.2.2.2.1, ()) y5).1.1, (instS (y6.1, y6.2.1, y6.2.2.1, y6.2.2.2.1, ()) y5).1.2, ()),
        (instS (y6.1, y6.2.1, y6.2.2.1, y6.2.2.2.1, ()) y5).2, (), ()))
    fun (x12 : (Int × Int × Unit) × (Int × Int × Int × List ((Int × Int) × List (Int × Int)) × Unit) × Unit × Unit) =>
    br (decide ((0 : Int) < (↑y8.length : Int)))
      (bd (grd (true && decide ((5 : Int) < (4611686018427387904 : Int))) ((y4 % (5 : Int), ()), (), (), ()))
        fun (x13 : (Int × Unit) × Unit × Unit × Unit) =>
        br (decide ((0 : Int) ≤ x13.1.1))
          (br (decide (x13.1.1 < (↑(5 : Nat) : Int)))
            (br (decide (y8.length * (24 : Nat) ≤ LIM))
              (br (decide (y8.length ≤ LIM))
                (br
                  (decide
                    ((y8.length +
                          [((([(((y8.getD (Int.toNat (0 : Int)) (((0 : Int), (0 : Int)), (0 : Int))).1.1,
                                                (y8.getD (Int.toNat (0 : Int)) (((0 : Int), (0 : Int)), (0 : Int))).1.2),
                                              (y8.getD (Int.toNat (0 : Int)) (((0 : Int), (0 : Int)), (0 : Int))).2),
                                            (((4 : Int), (0 : Int)), (0 : Int)), (((-1 : Int), (0 : Int)), (0 : Int)),
                                            (((2 : Int), (65536 : Int)), (0 : Int)), (((1 : Int), (300 : Int)), (2 : Int))].getD
                                        x13.1.1.toNat (((0 : Int), (0 : Int)), (0 : Int))).1.1,
                                  ([(((y8.getD (Int.toNat (0 : Int)) (((0 : Int), (0 : Int)), (0 : Int))).1.1,
                                                (y8.getD (Int.toNat (0 : Int)) (((0 : Int), (0 : Int)), (0 : Int))).1.2),
                                              (y8.getD (Int.toNat (0 : Int)) (((0 : Int), (0 : Int)), (0 : Int))).2),
                                            (((4 : Int), (0 : Int)), (0 : Int)), (((-1 : Int), (0 : Int)), (0 : Int)),
                                            (((2 : Int), (65536 : Int)), (0 : Int)), (((1 : Int), (300 : Int)), (2 : Int))].getD
                                        x13.1.1.toNat (((0 : Int), (0 : Int)), (0 : Int))).1.2),
                                ([(((y8.getD (Int.toNat (0 : Int)) (((0 : Int), (0 : Int)), (0 : Int))).1.1,
                                            (y8.getD (Int.toNat (0 : Int)) (((0 : Int), (0 : Int)), (0 : Int))).1.2),
                                          (y8.getD (Int.toNat (0 : Int)) (((0 : Int), (0 : Int)), (0 : Int))).2),
                                        (((4 : Int), (0 : Int)), (0 : Int)), (((-1 : Int), (0 : Int)), (0 : Int)),
                                        (((2 : Int), (65536 : Int)), (0 : Int)), (((1 : Int), (300 : Int)), (2 : Int))].getD
                                    x13.1.1.toNat (((0 : Int), (0 : Int)), (0 : Int))).2)].length) *
                        (24 : Nat) ≤
                      LIM))
                  (br
                    (decide
                      (y8.length +
                          [((([(((y8.getD (Int.toNat (0 : Int)) (((0 : Int), (0 : Int)), (0 : Int))).1.1,
                                                (y8.getD (Int.toNat (0 : Int)) (((0 : Int), (0 : Int)), (0 : Int))).1.2),
                                              (y8.getD (Int.toNat (0 : Int)) (((0 : Int), (0 : Int)), (0 : Int))).2),
                                            (((4 : Int), (0 : Int)), (0 : Int)), (((-1 : Int), (0 : Int)), (0 : Int)),
                                            (((2 : Int), (65536 : Int)), (0 : Int)), (((1 : Int), (300 : Int)), (2 : Int))].getD
                                        x13.1.1.toNat (((0 : Int), (0 : Int)), (0 : Int))).1.1,
                                  ([(((y8.getD (Int.toNat (0 : Int)) (((0 : Int), (0 : Int)), (0 : Int))).1.1,
                                                (y8.getD (Int.toNat (0 : Int)) (((0 : Int), (0 : Int)), (0 : Int))).1.2),
                                              (y8.getD (Int.toNat (0 : Int)) (((0 : Int), (0 : Int)), (0 : Int))).2),
                                            (((4 : Int), (0 : Int)), (0 : Int)), (((-1 : Int), (0 : Int)), (0 : Int)),
                                            (((2 : Int), (65536 : Int)), (0 : Int)), (((1 : Int), (300 : Int)), (2 : Int))].getD
                                        x13.1.1.toNat (((0 : Int), (0 : Int)), (0 : Int))).1.2),
                                ([(((y8.getD (Int.toNat (0 : Int)) (((0 : Int), (0 : Int)), (0 : Int))).1.1,
                                            (y8.getD (Int.toNat (0 : Int)) (((0 : Int), (0 : Int)), (0 : Int))).1.2),
                                          (y8.getD (Int.toNat (0 : Int)) (((0 : Int), (0 : Int)), (0 : Int))).2),
                                        (((4 : Int), (0 : Int)), (0 : Int)), (((-1 : Int), (0 : Int)), (0 : Int)),
                                        (((2 : Int), (65536 : Int)), (0 : Int)), (((1 : Int), (300 : Int)), (2 : Int))].getD
                                    x13.1.1.toNat (((0 : Int), (0 : Int)), (0 : Int))).2)].length ≤
                        LIM))
                    (bd
                      (grd
                        (stoOk (y7.1, y7.2.1, y7.2.2.1, y7.2.2.2.1, ()) &&
                          lenOk
                            (cat y8
                              [((([(((y8.getD (Int.toNat (0 : Int)) (((0 : Int), (0 : Int)), (0 : Int))).1.1,
                                                  (y8.getD (Int.toNat (0 : Int)) (((0 : Int), (0 : Int)), (0 : Int))).1.2),
                                                (y8.getD (Int.toNat (0 : Int)) (((0 : Int), (0 : Int)), (0 : Int))).2),
                                              (((4 : Int), (0 : Int)), (0 : Int)), (((-1 : Int), (0 : Int)), (0 : Int)),
                                              (((2 : Int), (65536 : Int)), (0 : Int)), (((1 : Int), (300 : Int)), (2 : Int))].getD
                                          x13.1.1.toNat (((0 : Int), (0 : Int)), (0 : Int))).1.1,
                                    ([(((y8.getD (Int.toNat (0 : Int)) (((0 : Int), (0 : Int)), (0 : Int))).1.1,
                                                  (y8.getD (Int.toNat (0 : Int)) (((0 : Int), (0 : Int)), (0 : Int))).1.2),
                                                (y8.getD (Int.toNat (0 : Int)) (((0 : Int), (0 : Int)), (0 : Int))).2),
                                              (((4 : Int), (0 : Int)), (0 : Int)), (((-1 : Int), (0 : Int)), (0 : Int)),
                                              (((2 : Int), (65536 : Int)), (0 : Int)), (((1 : Int), (300 : Int)), (2 : Int))].getD
                                          x13.1.1.toNat (((0 : Int), (0 : Int)), (0 : Int))).1.2),
                                  ([(((y8.getD (Int.toNat (0 : Int)) (((0 : Int), (0 : Int)), (0 : Int))).1.1,
                                              (y8.getD (Int.toNat (0 : Int)) (((0 : Int), (0 : Int)), (0 : Int))).1.2),
                                            (y8.getD (Int.toNat (0 : Int)) (((0 : Int), (0 : Int)), (0 : Int))).2),
                                          (((4 : Int), (0 : Int)), (0 : Int)), (((-1 : Int), (0 : Int)), (0 : Int)),
                                          (((2 : Int), (65536 : Int)), (0 : Int)), (((1 : Int), (300 : Int)), (2 : Int))].getD
                                      x13.1.1.toNat (((0 : Int), (0 : Int)), (0 : Int))).2)]))
                        (((instS (y7.1, y7.2.1, y7.2.2.1, y7.2.2.2.1, ())
                                  (cat y8
                                    [((([(((y8.getD (Int.toNat (0 : Int)) (((0 : Int), (0 : Int)), (0 : Int))).1.1,
                                                        (y8.getD (Int.toNat (0 : Int)) (((0 : Int), (0 : Int)), (0 : Int))).1.2),
                                                      (y8.getD (Int.toNat (0 : Int)) (((0 : Int), (0 : Int)), (0 : Int))).2),
                                                    (((4 : Int), (0 : Int)), (0 : Int)), (((-1 : Int), (0 : Int)), (0 : Int)),
                                                    (((2 : Int), (65536 : Int)), (0 : Int)), (((1 : Int), (300 : Int)), (2 : Int))].getD
                                                x13.1.1.toNat (((0 : Int), (0 : Int)), (0 : Int))).1.1,
                                          ([(((y8.getD (Int.toNat (0 : Int)) (((0 : Int), (0 : Int)), (0 : Int))).1.1,
                                                        (y8.getD (Int.toNat (0 : Int)) (((0 : Int), (0 : Int)), (0 : Int))).1.2),
                                                      (y8.getD (Int.toNat (0 : Int)) (((0 : Int), (0 : Int)), (0 : Int))).2),
                                                    (((4 : Int), (0 : Int)), (0 : Int)), (((-1 : Int), (0 : Int)), (0 : Int)),
                                                    (((2 : Int), (65536 : Int)), (0 : Int)), (((1 : Int), (300 : Int)), (2 : Int))].getD
                                                x13.1.1.toNat (((0 : Int), (0 : Int)), (0 : Int))).1.2),
                                        ([(((y8.getD (Int.toNat (0 : Int)) (((0 : Int), (0 : Int)), (0 : Int))).1.1,
                                                    (y8.getD (Int.toNat (0 : Int)) (((0 : Int), (0 : Int)), (0 : Int))).1.2),
                                                  (y8.getD (Int.toNat (0 : Int)) (((0 : Int), (0 : Int)), (0 : Int))).2),
                                                (((4 : Int), (0 : Int)), (0 : Int)), (((-1 : Int), (0 : Int)), (0 : Int)),
                                                (((2 : Int), (65536 : Int)), (0 : Int)), (((1 : Int), (300 : Int)), (2 : Int))].getD
                                            x13.1.1.toNat (((0 : Int), (0 : Int)), (0 : Int))).2)])).1.1,
                            (instS (y7.1, y7.2.1, y7.2.2.1, y7.2.2.2.1, ())
                                  (cat y8
                                    [((([(((y8.getD (Int.toNat (0 : Int)) (((0 : Int), (0 : Int)), (0 : Int))).1.1,
                                                        (y8.getD (Int.toNat (0 : Int)) (((0 : Int), (0 : Int)), (0 : Int))).1.2),
                                                      (y8.getD (Int.toNat (0 : Int)) (((0 : Int), (0 : Int)), (0 : Int))).2),
                                                    (((4 : Int), (0 : Int)), (0 : Int)), (((-1 : Int), (0 : Int)), (0 : Int)),
                                                    (((2 : Int), (65536 : Int)), (0 : Int)), (((1 : Int), (300 : Int)), (2 : Int))].getD
                                                x13.1.1.toNat (((0 : Int), (0 : Int)), (0 : Int))).1.1,
                                          ([(((y8.getD (Int.toNat (0 : Int)) (((0 : Int), (0 : Int)), (0 : Int))).1.1,
                                                        (y8.getD (Int.toNat (0 : Int)) (((0 : Int), (0 : Int)), (0 : Int))).1.2),
                                                      (y8.getD (Int.toNat (0 : Int)) (((0 : Int), (0 : Int)), (0 : Int))).2),
                                                    (((4 : Int), (0 : Int)), (0 : Int)), (((-1 : Int), (0 : Int)), (0 : Int)),
                                                    (((2 : Int), (65536 : Int)), (0 : Int)), (((1 : Int), (300 : Int)), (2 : Int))].getD
                                                x13.1.1.toNat (((0 : Int), (0 : Int)), (0 : Int))).1.2),
                                        ([(((y8.getD (Int.toNat (0 : Int)) (((0 : Int), (0 : Int)), (0 : Int))).1.1,
                                                    (y8.getD (Int.toNat (0 : Int)) (((0 : Int), (0 : Int)), (0 : Int))).1.2),
                                                  (y8.getD (Int.toNat (0 : Int)) (((0 : Int), (0 : Int)), (0 : Int))).2),
                                                (((4 : Int), (0 : Int)), (0 : Int)), (((-1 : Int), (0 : Int)), (0 : Int)),
                                                (((2 : Int), (65536 : Int)), (0 : Int)), (((1 : Int), (300 : Int)), (2 : Int))].getD
                                            x13.1.1.toNat (((0 : Int), (0 : Int)), (0 : Int))).2)])).1.2,
                            ()),
                          (instS (y7.1, y7.2.1, y7.2.2.1, y7.2.2.2.1, ())
                              (cat y8
                                [((([(((y8.getD (Int.toNat (0 : Int)) (((0 : Int), (0 : Int)), (0 : Int))).1.1,
                                                    (y8.getD (Int.toNat (0 : Int)) (((0 : Int), (0 : Int)), (0 : Int))).1.2),
                                                  (y8.getD (Int.toNat (0 : Int)) (((0 : Int), (0 : Int)), (0 : Int))).2),
                                                (((4 : Int), (0 : Int)), (0 : Int)), (((-1 : Int), (0 : Int)), (0 : Int)),
                                                (((2 : Int), (65536 : Int)), (0 : Int)), (((1 : Int), (300 : Int)), (2 : Int))].getD
                                            x13.1.1.toNat (((0 : Int), (0 : Int)), (0 : Int))).1.1,
                                      ([(((y8.getD (Int.toNat (0 : Int)) (((0 : Int), (0 : Int)), (0 : Int))).1.1,
                                                    (y8.getD (Int.toNat (0 : Int)) (((0 : Int), (0 : Int)), (0 : Int))).1.2),
                                                  (y8.getD (Int.toNat (0 : Int)) (((0 : Int), (0 : Int)), (0 : Int))).2),
                                                (((4 : Int), (0 : Int)), (0 : Int)), (((-1 : Int), (0 : Int)), (0 : Int)),
                                                (((2 : Int), (65536 : Int)), (0 : Int)), (((1 : Int), (300 : Int)), (2 : Int))].getD
                                            x13.1.1.toNat (((0 : Int), (0 : Int)), (0 : Int))).1.2),
                                    ([(((y8.getD (Int.toNat (0 : Int)) (((0 : Int), (0 : Int)), (0 : Int))).1.1,
                                                (y8.getD (Int.toNat (0 : Int)) (((0 : Int), (0 : Int)), (0 : Int))).1.2),
                                              (y8.getD (Int.toNat (0 : Int)) (((0 : Int), (0 : Int)), (0 : Int))).2),
                                            (((4 : Int), (0 : Int)), (0 : Int)), (((-1 : Int), (0 : Int)), (0 : Int)),
                                            (((2 : Int), (65536 : Int)), (0 : Int)), (((1 : Int), (300 : Int)), (2 : Int))].getD
                                        x13.1.1.toNat (((0 : Int), (0 : Int)), (0 : Int))).2)])).2,
                          (), ()))
                      fun (x14 : (Int × Int × Unit) × (Int × Int × Int × List ((Int × Int) × List (Int × Int)) × Unit) × Unit × Unit) =>
                      br (x14.1.2.1 != (1 : Int)) (some ((false, ()), (), (), (), ()))
                        (br (x14.2.1.1 != (0 : Int)) (some ((false, ()), (), (), (), ()))
                          (br (x14.2.1.2.1 != (0 : Int)) (some ((false, ()), (), (), (), ()))
                            (br ((↑x14.2.1.2.2.2.1.length : Int) != (0 : Int))
                              (some ((false, ()), (), (), (), ()))
                              (bd
                                (grd (stoOk (x14.2.1.1, x14.2.1.2.1, x14.2.1.2.2.1, x14.2.1.2.2.2.1, ()) && lenOk y8)
                                  (((instS (x14.2.1.1, x14.2.1.2.1, x14.2.1.2.2.1, x14.2.1.2.2.2.1, ()) y8).1.1,
                                      (instS (x14.2.1.1, x14.2.1.2.1, x14.2.1.2.2.1, x14.2.1.2.2.2.1, ()) y8).1.2, ()),
                                    (instS (x14.2.1.1, x14.2.1.2.1, x14.2.1.2.2.1, x14.2.1.2.2.2.1, ()) y8).2, (), ()))
                                fun (x15 : (Int × Int × Unit) × (Int × Int × Int × List ((Int × Int) × List (Int × Int)) × Unit) × Unit × Unit) =>
                                br (x12.1.2.1 != (0 : Int)) (some ((false, ()), (), (), (), ()))
                                  (br (x15.1.2.1 != (0 : Int)) (some ((false, ()), (), (), (), ()))
                                    (br (x12.1.1 != (1 : Int)) (some ((false, ()), (), (), (), ()))
                                      (br (x15.1.1 != (1 : Int)) (some ((false, ()), (), (), (), ()))
                                        (loopN lStoreOrders_L1 K
                                          (y5, (x12.2.1.1, x12.2.1.2.1, x12.2.1.2.2.1, x12.2.1.2.2.2.1, ()),
                                            (x15.2.1.1, x15.2.1.2.1, x15.2.1.2.2.1, x15.2.1.2.2.2.1, ()), (0 : Int), ()))))))))))
                    none)
                  none)
                none)
              none)
            none)
          none)
      none)
def lStoreOrders_P (K : Nat) (a0 : List Int) (a1 : Int) (a2 : Int) : Option ((Bool × Unit) × Unit × Unit × Unit × Unit) :=
  br (decide ((↑a0.length : Int) < (1 : Int))) (some ((true, ()), (), (), (), ()))
  (br (decide ((↑a0.length : Int) > (20 : Int))) (some ((true, ()), (), (), (), ()))
    (br (!true) (some ((true, ()), (), (), (), ()))
      (loopN (lStoreOrders_L2 K) K
        (a1, a2, cellsS a0,
          ((stNewS (0 : Int) (100 : Int)).1, (stNewS (0 : Int) (100 : Int)).2.1, (stNewS (0 : Int) (100 : Int)).2.2.1,
            (stNewS (0 : Int) (100 : Int)).2.2.2.1, ()),
          ((stNewS (0 : Int) (100 : Int)).1, (stNewS (0 : Int) (100 : Int)).2.1, (stNewS (0 : Int) (100 : Int)).2.2.1,
            (stNewS (0 : Int) (100 : Int)).2.2.2.1, ()),
          [], (0 : Int), ()))))
theorem lStoreOrders_rn (K : Nat) (a0 : List
  Int) (a1 : Int) (a2 : Int) : runF (cfgW g_lStoreOrders) K f_lStoreOrders lStoreOrders_tm [.val (.slice tI), .val tI, .val tI] [.val .bool] (a0, a1, a2, ()) = lStoreOrders_P K a0 a1 a2 := by kernel_rfl
abbrev g_awake17 : List (Nat × Ctr O0) := [(n_stNew, c_stNew), (n_stInstall, c_stInstall), (n_stRead, c_stRead), (n_stVersions, c_stVersions)]
theorem awake17_rn : runF (cfgW g_awake17) 3 f_awake17 [] [] [.val .bool] () = some ((true, ()), ()) := by kernel_rfl
end
end Go.BB
