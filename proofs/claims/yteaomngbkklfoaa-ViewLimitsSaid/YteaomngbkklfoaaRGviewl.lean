/- A symbolic machine for the model's code, and what it shows of this seat's functions. No conditions. -/
import Derived.Test.YteaomngbkklfoaaRN
import Derived.Test.YteaomngbkklfoaaRSView
set_option linter.unusedSimpArgs false
set_option linter.unusedVariables false
namespace Go.BB
open Go Go.Proofs
set_option maxRecDepth 100000
set_option exponentiation.threshold 100000
noncomputable section
abbrev g_lViewPlays : List (Nat × Ctr O0) := [(n_awake19, c_awake19), (n_stores, c_stores), (n_within, c_within), (n_span, c_span), (n_digit, c_digit), (n_look, c_look), (n_rlook, c_rlook), (n_sameWords, c_sameWords), (n_cells, c_cells), (n_lentCells, c_lentCells), (n_viewWrite, c_viewWrite), (n_rviewWrite, c_rviewWrite), (n_sameView, c_sameView), (n_staysCells, c_staysCells), (n_viewRead, c_viewRead), (n_rviewRead, c_rviewRead)]
def lViewPlays_tm : List Tm := [[((2 : Nat), none, Sh.val (Ty.int IntKind.i64)), ((3 : Nat), none, Sh.val (Ty.int IntKind.i64)),
    ((4 : Nat), none, Sh.val (Ty.int IntKind.i64).slice),
    ((11 : Nat), none,
      ((Sh.val (Ty.int IntKind.u64)).cons
          ((Sh.val (Ty.int IntKind.i64)).cons
            ((Sh.val (Ty.int IntKind.i64)).cons
              ((Sh.map (MapK.mapS ((Ty.int IntKind.i64).pair (Ty.int IntKind.i64)) ((Ty.int IntKind.u64).pair (Ty.int IntKind.u16)))).cons
                Sh.unit)))).ptr),
    ((12 : Nat), none,
      ((Sh.val (Ty.int IntKind.u64)).cons
          ((Sh.val (Ty.int IntKind.i64)).cons
            ((Sh.own (((Ty.int IntKind.i64).pair (Ty.int IntKind.i64)).pair ((Ty.int IntKind.u64).pair (Ty.int IntKind.u16)).slice)).cons
              Sh.unit))).ptr),
    ((13 : Nat), none,
      ((Sh.val (Ty.int IntKind.u64)).cons
          ((Sh.val ((Ty.int IntKind.i64).pair ((Ty.int IntKind.i64).pair (Ty.int IntKind.i64))).slice).cons
            ((Sh.val (((Ty.int IntKind.i64).pair (Ty.int IntKind.i64)).pair (Ty.int IntKind.u16)).slice).cons Sh.unit))).ptr),
    ((14 : Nat), none,
      ((Sh.val (Ty.int IntKind.u64)).cons
          ((Sh.val ((Ty.int IntKind.i64).pair ((Ty.int IntKind.i64).pair (Ty.int IntKind.i64))).slice).cons
            ((Sh.val (((Ty.int IntKind.i64).pair (Ty.int IntKind.i64)).pair (Ty.int IntKind.u16)).slice).cons Sh.unit))).ptr),
    ((15 : Nat), none, Sh.val (Ty.int IntKind.i64))]]
def lViewPlays_L1 (rec4 : Int ×
    Int ×
      List Int ×
        (Int × Int × Int × List ((Int × Int) × List (Int × Int)) × Unit) ×
          (Int × Int × List ((Int × Int) × List (Int × Int)) × Unit) ×
            (Int × List (Int × Int × Int) × List ((Int × Int) × Int) × Unit) ×
              (Int × List (Int × Int × Int) × List ((Int × Int) × Int) × Unit) × Int × Unit →
  Option
    ((Bool × Unit) ×
      Unit ×
        Unit ×
          Unit ×
            Unit ×
              Unit ×
                Unit)) : Int ×
    Int ×
      List Int ×
        (Int × Int × Int × List ((Int × Int) × List (Int × Int)) × Unit) ×
          (Int × Int × List ((Int × Int) × List (Int × Int)) × Unit) ×
            (Int × List (Int × Int × Int) × List ((Int × Int) × Int) × Unit) ×
              (Int × List (Int × Int × Int) × List ((Int × Int) × Int) × Unit) × Int × Unit →
  Option ((Bool × Unit) × Unit × Unit × Unit × Unit × Unit × Unit) := fun (y6, y7, y8, y9, y10, y11, y12, y13, ()) =>
  br (decide (y13 < (↑y8.length : Int)))
  (br (decide ((0 : Int) ≤ y13))
    (br (decide (y13 < (↑y8.length : Int)))
      (bd
        (grd (decide ((0 : Int) < (3 : Int)) && (decide ((0 : Int) < (100000 : Int)) && decide ((100000 : Int) < (4611686018427387904 : Int))))
          ((digitS (y8.getD y13.toNat (0 : Int)) (3 : Int) (100000 : Int), ()), (), (), (), ()))
        fun (x14 : (Int × Unit) × Unit × Unit × Unit × Unit) =>
        bd
          (grd
            (stoOk (y9.1, y9.2.1, y9.2.2.1, y9.2.2.2.1, ()) &&
              (viewOk (y11.1, y11.2.1, y11.2.2.1) &&
                spanR ((spanS x14.1.1).1, (spanS x14.1.1).2.1, minI (spanS x14.1.1).2.2 (IntKind.i64.wrap ((spanS x14.1.1).2.1 + (60 : Int))))))
            ((lookP y9.2.2.2.1 (y11.1, y11.2.1, y11.2.2.1)
                  ((spanS x14.1.1).1, (spanS x14.1.1).2.1, minI (spanS x14.1.1).2.2 (IntKind.i64.wrap ((spanS x14.1.1).2.1 + (60 : Int)))),
                ()),
              (y9.1, y9.2.1, y9.2.2.1, y9.2.2.2.1, ()), (), (), ()))
          fun (x15 : (List Int × Unit) × (Int × Int × Int × List ((Int × Int) × List (Int × Int)) × Unit) × Unit × Unit × Unit) =>
          bd
            (grd
              (refOk (y10.1, y10.2.1, y10.2.2.1, ()) &&
                (viewOk (y12.1, y12.2.1, y12.2.2.1) &&
                  spanR ((spanS x14.1.1).1, (spanS x14.1.1).2.1, minI (spanS x14.1.1).2.2 (IntKind.i64.wrap ((spanS x14.1.1).2.1 + (60 : Int))))))
              ((lookD y10.2.2.1 (y12.1, y12.2.1, y12.2.2.1)
                    ((spanS x14.1.1).1, (spanS x14.1.1).2.1, minI (spanS x14.1.1).2.2 (IntKind.i64.wrap ((spanS x14.1.1).2.1 + (60 : Int)))),
                  ()),
                (), (), (), ()))
            fun (x16 : (List Int × Unit) × Unit × Unit × Unit × Unit) =>
            bd (grd (decide (x15.1.1.length < (1000000 : Nat))) ((sameS x15.1.1 x16.1.1, ()), (), (), ()))
              fun (x17 : (Bool × Unit) × Unit × Unit × Unit) =>
              br (!x17.1.1) (some ((false, ()), (), (), (), (), (), ()))
                (br (decide ((0 : Int) ≤ y13))
                  (br (decide (y13 < (↑y8.length : Int)))
                    (bd
                      (grd (true && decide ((3 : Int) < (4611686018427387904 : Int)))
                        ((y8.getD y13.toNat (0 : Int) % (3 : Int), ()), (), (), ()))
                      fun (x18 : (Int × Unit) × Unit × Unit × Unit) =>
                      br (x18.1.1 == (0 : Int))
                        (br (decide ((0 : Int) ≤ y13))
                          (br (decide (y13 ≤ minI (IntKind.i64.wrap (y13 + (3 : Int))) (↑y8.length : Int)))
                            (br (decide (minI (IntKind.i64.wrap (y13 + (3 : Int))) (↑y8.length : Int) ≤ (↑y8.length : Int)))
                              (bd
                                (grd
                                  (decide
                                    ((cellsS
                                          (List.take ((minI (IntKind.i64.wrap (y13 + (3 : Int))) (↑y8.length : Int)).toNat - y13.toNat)
                                            (List.drop y13.toNat y8))).length <
                                      (1000000 : Nat)))
                                  (((lentS (((0 : Int), (0 : Int)), (7 : Int))
                                          (cellsS
                                            (List.take ((minI (IntKind.i64.wrap (y13 + (3 : Int))) (↑y8.length : Int)).toNat - y13.toNat)
                                              (List.drop y13.toNat y8))),
                                        (cellsS
                                            (List.take ((minI (IntKind.i64.wrap (y13 + (3 : Int))) (↑y8.length : Int)).toNat - y13.toNat)
                                              (List.drop y13.toNat y8))).length),
                                      ()),
                                    (), ()))
                                fun (x19 : ((List ((Int × Int) × Int) × Nat) × Unit) × Unit × Unit) =>
                                bd
                                  (grd
                                    (viewOk (y11.1, y11.2.1, y11.2.2.1) &&
                                      (decide (x19.1.1.1.length ≤ (100000 : Nat)) && decide (x19.1.1.2 ≤ x19.1.1.1.length)))
                                    (((viewWrite (y11.1, y11.2.1, y11.2.2.1) (List.take x19.1.1.2 x19.1.1.1) y7).1,
                                        (viewWrite (y11.1, y11.2.1, y11.2.2.1) (List.take x19.1.1.2 x19.1.1.1) y7).2, ()),
                                      (), x19.1.1.1, (), ()))
                                  fun
                                    (x20 :
                                      ((Int × List (Int × Int × Int) × List ((Int × Int) × Int)) × Int × Unit) ×
                                        Unit × List ((Int × Int) × Int) × Unit × Unit) =>
                                  bd
                                    (grd
                                      (viewOk (y12.1, y12.2.1, y12.2.2.1) &&
                                        decide
                                          ((cellsS
                                                (List.take ((minI (IntKind.i64.wrap (y13 + (3 : Int))) (↑y8.length : Int)).toNat - y13.toNat)
                                                  (List.drop y13.toNat y8))).length ≤
                                            (100000 : Nat)))
                                      (((viewWrite (y12.1, y12.2.1, y12.2.2.1)
                                              (cellsS
                                                (List.take ((minI (IntKind.i64.wrap (y13 + (3 : Int))) (↑y8.length : Int)).toNat - y13.toNat)
                                                  (List.drop y13.toNat y8)))
                                              y7).1,
                                          (viewWrite (y12.1, y12.2.1, y12.2.2.1)
                                              (cellsS
                                                (List.take ((minI (IntKind.i64.wrap (y13 + (3 : Int))) (↑y8.length : Int)).toNat - y13.toNat)
                                                  (List.drop y13.toNat y8)))
                                              y7).2,
                                          ()),
                                        (), (), (), ()))
                                    fun
                                      (x21 :
                                        ((Int × List (Int × Int × Int) × List ((Int × Int) × Int)) × Int × Unit) × Unit × Unit × Unit × Unit) =>
                                    br (x20.1.2.1 != x21.1.2.1)
                                      (some ((false, ()), (), (), (), (), (), ()))
                                      (bd
                                        (grd (viewOk (x20.1.1.1, x20.1.1.2.1, x20.1.1.2.2) && viewOk (x21.1.1.1, x21.1.1.2.1, x21.1.1.2.2))
                                          ((sameVw (x20.1.1.1, x20.1.1.2.1, x20.1.1.2.2) (x21.1.1.1, x21.1.1.2.1, x21.1.1.2.2), ()),
                                            (), (), ()))
                                        fun (x22 : (Bool × Unit) × Unit × Unit × Unit) =>
                                        br (!x22.1.1)
                                          (some ((false, ()), (), (), (), (), (), ()))
                                          (bd
                                            (grd
                                              (staysS (((0 : Int), (0 : Int)), (7 : Int)) x20.2.2.1 x19.1.1.2
                                                  (cellsS
                                                    (List.take ((minI (IntKind.i64.wrap (y13 + (3 : Int))) (↑y8.length : Int)).toNat - y13.toNat)
                                                      (List.drop y13.toNat y8))) &&
                                                decide
                                                  ((cellsS
                                                        (List.take ((minI (IntKind.i64.wrap (y13 + (3 : Int))) (↑y8.length : Int)).toNat - y13.toNat)
                                                          (List.drop y13.toNat y8))).length <
                                                    (1000000 : Nat)))
                                              ((true, ()), x20.2.2.1, (), ()))
                                            fun (x23 : (Bool × Unit) × List ((Int × Int) × Int) × Unit × Unit) =>
                                            br (!x23.1.1)
                                              (some ((false, ()), (), (), (), (), (), ()))
                                              (bd
                                                (grd (viewOk (y11.1, y11.2.1, y11.2.2.1) && viewOk (y12.1, y12.2.1, y12.2.2.1))
                                                  ((sameVw (y11.1, y11.2.1, y11.2.2.1) (y12.1, y12.2.1, y12.2.2.1), ()), (),
                                                    (), ()))
                                                fun (x24 : (Bool × Unit) × Unit × Unit × Unit) =>
                                                br (!x24.1.1)
                                                  (some ((false, ()), (), (), (), (), (), ()))
                                                  (rec4
                                                    (y6, y7, y8, (x15.2.1.1, x15.2.1.2.1, x15.2.1.2.2.1, x15.2.1.2.2.2.1, ()),
                                                      (y10.1, y10.2.1, y10.2.2.1, ()), (x20.1.1.1, x20.1.1.2.1, x20.1.1.2.2, ()),
                                                      (x21.1.1.1, x21.1.1.2.1, x21.1.1.2.2, ()), IntKind.i64.wrap (y13 + (1 : Int)),
                                                      ()))))))
                              none)
                            none)
                          none)
                        (bd
                          (grd
                            (stoOk (x15.2.1.1, x15.2.1.2.1, x15.2.1.2.2.1, x15.2.1.2.2.2.1, ()) &&
                              (viewOk (y11.1, y11.2.1, y11.2.2.1) &&
                                spanR
                                  ((spanS x14.1.1).1, (spanS x14.1.1).2.1,
                                    minI (spanS x14.1.1).2.2 (IntKind.i64.wrap ((spanS x14.1.1).2.1 + (60 : Int))))))
                            (((viewRead (y11.1, y11.2.1, y11.2.2.1)
                                      ((spanS x14.1.1).1, (spanS x14.1.1).2.1,
                                        minI (spanS x14.1.1).2.2 (IntKind.i64.wrap ((spanS x14.1.1).2.1 + (60 : Int))))
                                      y6
                                      (lookP x15.2.1.2.2.2.1 (y11.1, y11.2.1, y11.2.2.1)
                                        ((spanS x14.1.1).1, (spanS x14.1.1).2.1,
                                          minI (spanS x14.1.1).2.2 (IntKind.i64.wrap ((spanS x14.1.1).2.1 + (60 : Int)))))).1.1,
                                (viewRead (y11.1, y11.2.1, y11.2.2.1)
                                      ((spanS x14.1.1).1, (spanS x14.1.1).2.1,
                                        minI (spanS x14.1.1).2.2 (IntKind.i64.wrap ((spanS x14.1.1).2.1 + (60 : Int))))
                                      y6
                                      (lookP x15.2.1.2.2.2.1 (y11.1, y11.2.1, y11.2.2.1)
                                        ((spanS x14.1.1).1, (spanS x14.1.1).2.1,
                                          minI (spanS x14.1.1).2.2 (IntKind.i64.wrap ((spanS x14.1.1).2.1 + (60 : Int)))))).1.2,
                                (viewRead (y11.1, y11.2.1, y11.2.2.1)
                                    ((spanS x14.1.1).1, (spanS x14.1.1).2.1,
                                      minI (spanS x14.1.1).2.2 (IntKind.i64.wrap ((spanS x14.1.1).2.1 + (60 : Int))))
                                    y6
                                    (lookP x15.2.1.2.2.2.1 (y11.1, y11.2.1, y11.2.2.1)
                                      ((spanS x14.1.1).1, (spanS x14.1.1).2.1,
                                        minI (spanS x14.1.1).2.2 (IntKind.i64.wrap ((spanS x14.1.1).2.1 + (60 : Int)))))).2,
                                ()),
                              (x15.2.1.1, x15.2.1.2.1, x15.2.1.2.2.1, x15.2.1.2.2.2.1, ()), (), (), (), ()))
                          fun
                            (x25 :
                              ((Int × List (Int × Int × Int) × List ((Int × Int) × Int)) × List Int × Int × Unit) ×
                                (Int × Int × Int × List ((Int × Int) × List (Int × Int)) × Unit) × Unit × Unit × Unit × Unit) =>
                          bd
                            (grd
                              (refOk (y10.1, y10.2.1, y10.2.2.1, ()) &&
                                (viewOk (y12.1, y12.2.1, y12.2.2.1) &&
                                  spanR
                                    ((spanS x14.1.1).1, (spanS x14.1.1).2.1,
                                      minI (spanS x14.1.1).2.2 (IntKind.i64.wrap ((spanS x14.1.1).2.1 + (60 : Int))))))
                              (((viewRead (y12.1, y12.2.1, y12.2.2.1)
                                        ((spanS x14.1.1).1, (spanS x14.1.1).2.1,
                                          minI (spanS x14.1.1).2.2 (IntKind.i64.wrap ((spanS x14.1.1).2.1 + (60 : Int))))
                                        y6
                                        (lookD y10.2.2.1 (y12.1, y12.2.1, y12.2.2.1)
                                          ((spanS x14.1.1).1, (spanS x14.1.1).2.1,
                                            minI (spanS x14.1.1).2.2 (IntKind.i64.wrap ((spanS x14.1.1).2.1 + (60 : Int)))))).1.1,
                                  (viewRead (y12.1, y12.2.1, y12.2.2.1)
                                        ((spanS x14.1.1).1, (spanS x14.1.1).2.1,
                                          minI (spanS x14.1.1).2.2 (IntKind.i64.wrap ((spanS x14.1.1).2.1 + (60 : Int))))
                                        y6
                                        (lookD y10.2.2.1 (y12.1, y12.2.1, y12.2.2.1)
                                          ((spanS x14.1.1).1, (spanS x14.1.1).2.1,
                                            minI (spanS x14.1.1).2.2 (IntKind.i64.wrap ((spanS x14.1.1).2.1 + (60 : Int)))))).1.2,
                                  (viewRead (y12.1, y12.2.1, y12.2.2.1)
                                      ((spanS x14.1.1).1, (spanS x14.1.1).2.1,
                                        minI (spanS x14.1.1).2.2 (IntKind.i64.wrap ((spanS x14.1.1).2.1 + (60 : Int))))
                                      y6
                                      (lookD y10.2.2.1 (y12.1, y12.2.1, y12.2.2.1)
                                        ((spanS x14.1.1).1, (spanS x14.1.1).2.1,
                                          minI (spanS x14.1.1).2.2 (IntKind.i64.wrap ((spanS x14.1.1).2.1 + (60 : Int)))))).2,
                                  ()),
                                (y10.1, y10.2.1, y10.2.2.1, ()), (), (), (), ()))
                            fun
                              (x26 :
                                ((Int × List (Int × Int × Int) × List ((Int × Int) × Int)) × List Int × Int × Unit) ×
                                  (Int × Int × List ((Int × Int) × List (Int × Int)) × Unit) × Unit × Unit × Unit × Unit) =>
                            br (x25.1.2.2.1 != x26.1.2.2.1)
                              (some ((false, ()), (), (), (), (), (), ()))
                              (bd
                                (grd (viewOk (x25.1.1.1, x25.1.1.2.1, x25.1.1.2.2) && viewOk (x26.1.1.1, x26.1.1.2.1, x26.1.1.2.2))
                                  ((sameVw (x25.1.1.1, x25.1.1.2.1, x25.1.1.2.2) (x26.1.1.1, x26.1.1.2.1, x26.1.1.2.2), ()), (),
                                    (), ()))
                                fun (x27 : (Bool × Unit) × Unit × Unit × Unit) =>
                                br (!x27.1.1) (some ((false, ()), (), (), (), (), (), ()))
                                  (bd
                                    (grd (decide (x25.1.2.1.length < (1000000 : Nat)))
                                      ((sameS x25.1.2.1 x26.1.2.1, ()), (), (), ()))
                                    fun (x28 : (Bool × Unit) × Unit × Unit × Unit) =>
                                    br (!x28.1.1) (some ((false, ()), (), (), (), (), (), ()))
                                      (bd
                                        (grd (viewOk (y11.1, y11.2.1, y11.2.2.1) && viewOk (y12.1, y12.2.1, y12.2.2.1))
                                          ((sameVw (y11.1, y11.2.1, y11.2.2.1) (y12.1, y12.2.1, y12.2.2.1), ()), (), (),
                                            ()))
                                        fun (x29 : (Bool × Unit) × Unit × Unit × Unit) =>
                                        br (!x29.1.1)
                                          (some ((false, ()), (), (), (), (), (), ()))
                                          (rec4
                                            (y6, y7, y8, (x25.2.1.1, x25.2.1.2.1, x25.2.1.2.2.1, x25.2.1.2.2.2.1, ()),
                                              (x26.2.1.1, x26.2.1.2.1, x26.2.1.2.2.1, ()), (x25.1.1.1, x25.1.1.2.1, x25.1.1.2.2, ()),
                                              (x26.1.1.1, x26.1.1.2.1, x26.1.1.2.2, ()), IntKind.i64.wrap (y13 + (1 : Int)), ())))))))
                    none)
                  none))
      none)
    none)
  (bd
    (grd (viewOk (y11.1, y11.2.1, y11.2.2.1) && viewOk (y12.1, y12.2.1, y12.2.2.1))
      ((sameVw (y11.1, y11.2.1, y11.2.2.1) (y12.1, y12.2.1, y12.2.2.1), ()), (), (), ()))
    fun (x30 : (Bool × Unit) × Unit × Unit × Unit) =>
    some ((x30.1.1, ()), (), (), (), (), (), ()))
def lViewPlays_P (K : Nat) (a0 : List
  Int) (a1 : Int) (a2 : Int) (a3 : Int) (a4 : List Int) : Option ((Bool × Unit) × Unit × Unit × Unit × Unit × Unit × Unit) :=
  br (decide ((↑a0.length : Int) > (40 : Int))) (some ((true, ()), (), (), (), (), (), ()))
  (br (decide ((↑a4.length : Int) > (30 : Int))) (some ((true, ()), (), (), (), (), (), ()))
    (br (!true) (some ((true, ()), (), (), (), (), (), ()))
      (bd (grd (lenOk a0) (((storesS a0).1, (storesS a0).2, ()), (), ()))
        fun
          (x1 :
            ((Int × Int × Int × List ((Int × Int) × List (Int × Int)) × Unit) ×
                (Int × Int × List ((Int × Int) × List (Int × Int)) × Unit) × Unit) ×
              Unit × Unit) =>
        br (!false)
          (br (!false)
            (bd (grd (true && decide ((9 : Int) < (4611686018427387904 : Int))) ((a2 % (9 : Int), ()), (), (), ()))
              fun (x2 : (Int × Unit) × Unit × Unit × Unit) =>
              bd (grd (true && decide ((20 : Int) < (4611686018427387904 : Int))) ((a3 % (20 : Int), ()), (), (), ()))
                fun (x3 : (Int × Unit) × Unit × Unit × Unit) =>
                loopN lViewPlays_L1 K
                  (x2.1.1, x3.1.1, a4, (x1.1.1.1, x1.1.1.2.1, x1.1.1.2.2.1, x1.1.1.2.2.2.1, ()),
                    (x1.1.2.1.1, x1.1.2.1.2.1, x1.1.2.1.2.2.1, ()), (a1.tmod (16 : Int), [], [], ()),
                    (a1.tmod (16 : Int), [], [], ()), (0 : Int), ()))
            none)
          none)))
theorem lViewPlays_rn (K : Nat) (a0 : List
  Int) (a1 : Int) (a2 : Int) (a3 : Int) (a4 : List
  Int) : runF (cfgW g_lViewPlays) K f_lViewPlays lViewPlays_tm [.val (.slice tI), .val tU, .val tI, .val tI, .val (.slice tI)] [.val .bool] (a0, a1, a2, a3, a4, ()) = lViewPlays_P K a0 a1 a2 a3 a4 := by kernel_rfl
abbrev g_lViewOwn : List (Nat × Ctr O0) := [(n_awake19, c_awake19), (n_stores, c_stores), (n_span, c_span), (n_look, c_look), (n_stLast, c_stLast), (n_cells, c_cells), (n_viewWrite, c_viewWrite), (n_stInstall, c_stInstall), (n_viewRead, c_viewRead), (n_rbget, c_rbget), (n_rhas, c_rhas)]
def lViewOwn_tm : List Tm := [[((11 : Nat), none, ((Sh.val (Ty.int IntKind.i64)).cons ((Sh.val (Ty.int IntKind.i64)).cons ((Sh.val (Ty.int IntKind.i64)).cons Sh.unit))).ptr),
    ((12 : Nat), none, Sh.own (Ty.int IntKind.u16)),
    ((13 : Nat), none, Sh.own (((Ty.int IntKind.i64).pair (Ty.int IntKind.i64)).pair (Ty.int IntKind.u16))),
    ((14 : Nat), none,
      ((Sh.val (Ty.int IntKind.u64)).cons
          ((Sh.val ((Ty.int IntKind.i64).pair ((Ty.int IntKind.i64).pair (Ty.int IntKind.i64))).slice).cons
            ((Sh.val (((Ty.int IntKind.i64).pair (Ty.int IntKind.i64)).pair (Ty.int IntKind.u16)).slice).cons Sh.unit))).ptr),
    ((19 : Nat), none, Sh.own (Ty.int IntKind.u16)), ((21 : Nat), none, Sh.val (Ty.int IntKind.i64))]]
def lViewOwn_L1 (rec6 : (Int × Int × Int × Unit) ×
    List Int × List ((Int × Int) × Int) × (Int × List (Int × Int × Int) × List ((Int × Int) × Int) × Unit) × List Int × Int × Unit →
  Option
    ((Bool × Unit) ×
      Unit ×
        Unit ×
          Unit ×
            Unit ×
              Unit)) : (Int × Int × Int × Unit) ×
    List Int × List ((Int × Int) × Int) × (Int × List (Int × Int × Int) × List ((Int × Int) × Int) × Unit) × List Int × Int × Unit →
  Option ((Bool × Unit) × Unit × Unit × Unit × Unit × Unit) := fun (y8, y9, y10, y11, y12, y13, ()) =>
  br (decide (y13 < (↑y12.length : Int)))
  (bd
    (grd (lenOk y10 && bufS y10)
      (((getK y10 (y8.1, IntKind.i64.wrap (y8.2.1 + y13))).1, (getK y10 (y8.1, IntKind.i64.wrap (y8.2.1 + y13))).2, ()), (),
        (), ()))
    fun (x14 : (Int × Bool × Unit) × Unit × Unit × Unit) =>
    br (!x14.1.2.1)
      (br (decide ((0 : Int) ≤ y13))
        (br (decide (y13 < (↑y9.length : Int)))
          (br (decide ((0 : Int) ≤ y13))
            (br (decide (y13 < (↑y12.length : Int)))
              (br (y12.getD y13.toNat (0 : Int) != y9.getD y13.toNat (0 : Int))
                (some ((false, ()), (), (), (), (), ()))
                (bd (grd (lenOk y11.2.1) ((hasS y11.2.1 (y8.1, IntKind.i64.wrap (y8.2.1 + y13)), ()), (), (), ()))
                  fun (x15 : (Bool × Unit) × Unit × Unit × Unit) =>
                  br (x15.1.1 == x14.1.2.1) (some ((false, ()), (), (), (), (), ()))
                    (rec6
                      ((y8.1, y8.2.1, y8.2.2.1, ()), y9, y10, (y11.1, y11.2.1, y11.2.2.1, ()), y12,
                        IntKind.i64.wrap (y13 + (1 : Int)), ()))))
              none)
            none)
          none)
        none)
      (br (decide ((0 : Int) ≤ y13))
        (br (decide (y13 < (↑y12.length : Int)))
          (br (y12.getD y13.toNat (0 : Int) != x14.1.1) (some ((false, ()), (), (), (), (), ()))
            (bd (grd (lenOk y11.2.1) ((hasS y11.2.1 (y8.1, IntKind.i64.wrap (y8.2.1 + y13)), ()), (), (), ()))
              fun (x16 : (Bool × Unit) × Unit × Unit × Unit) =>
              br (x16.1.1 == x14.1.2.1) (some ((false, ()), (), (), (), (), ()))
                (rec6
                  ((y8.1, y8.2.1, y8.2.2.1, ()), y9, y10, (y11.1, y11.2.1, y11.2.2.1, ()), y12, IntKind.i64.wrap (y13 + (1 : Int)),
                    ()))))
          none)
        none))
  (some ((true, ()), (), (), (), (), ()))
def lViewOwn_L2 (rec18 : (Int × Int × Int × Unit) ×
    List Int × List ((Int × Int) × Int) × (Int × List (Int × Int × Int) × List ((Int × Int) × Int) × Unit) × List Int × Int × Unit →
  Option
    ((Bool × Unit) ×
      Unit ×
        Unit ×
          Unit ×
            Unit ×
              Unit)) : (Int × Int × Int × Unit) ×
    List Int × List ((Int × Int) × Int) × (Int × List (Int × Int × Int) × List ((Int × Int) × Int) × Unit) × List Int × Int × Unit →
  Option ((Bool × Unit) × Unit × Unit × Unit × Unit × Unit) := fun (y20, y21, y22, y23, y24, y25, ()) =>
  br (decide (y25 < (↑y24.length : Int)))
  (bd
    (grd (lenOk y22 && bufS y22)
      (((getK y22 (y20.1, IntKind.i64.wrap (y20.2.1 + y25))).1, (getK y22 (y20.1, IntKind.i64.wrap (y20.2.1 + y25))).2, ()), (),
        (), ()))
    fun (x26 : (Int × Bool × Unit) × Unit × Unit × Unit) =>
    br (!x26.1.2.1)
      (br (decide ((0 : Int) ≤ y25))
        (br (decide (y25 < (↑y21.length : Int)))
          (br (decide ((0 : Int) ≤ y25))
            (br (decide (y25 < (↑y24.length : Int)))
              (br (y24.getD y25.toNat (0 : Int) != y21.getD y25.toNat (0 : Int))
                (some ((false, ()), (), (), (), (), ()))
                (bd (grd (lenOk y23.2.1) ((hasS y23.2.1 (y20.1, IntKind.i64.wrap (y20.2.1 + y25)), ()), (), (), ()))
                  fun (x27 : (Bool × Unit) × Unit × Unit × Unit) =>
                  br (x27.1.1 == x26.1.2.1) (some ((false, ()), (), (), (), (), ()))
                    (rec18
                      ((y20.1, y20.2.1, y20.2.2.1, ()), y21, y22, (y23.1, y23.2.1, y23.2.2.1, ()), y24,
                        IntKind.i64.wrap (y25 + (1 : Int)), ()))))
              none)
            none)
          none)
        none)
      (br (decide ((0 : Int) ≤ y25))
        (br (decide (y25 < (↑y24.length : Int)))
          (br (y24.getD y25.toNat (0 : Int) != x26.1.1) (some ((false, ()), (), (), (), (), ()))
            (bd (grd (lenOk y23.2.1) ((hasS y23.2.1 (y20.1, IntKind.i64.wrap (y20.2.1 + y25)), ()), (), (), ()))
              fun (x28 : (Bool × Unit) × Unit × Unit × Unit) =>
              br (x28.1.1 == x26.1.2.1) (some ((false, ()), (), (), (), (), ()))
                (rec18
                  ((y20.1, y20.2.1, y20.2.2.1, ()), y21, y22, (y23.1, y23.2.1, y23.2.2.1, ()), y24,
                    IntKind.i64.wrap (y25 + (1 : Int)), ()))))
          none)
        none))
  (some ((true, ()), (), (), (), (), ()))
def lViewOwn_P (K : Nat) (a0 : List
  Int) (a1 : List Int) (a2 : List Int) (a3 : Int) : Option ((Bool × Unit) × Unit × Unit × Unit × Unit × Unit) :=
  br (decide ((↑a0.length : Int) > (40 : Int))) (some ((true, ()), (), (), (), (), ()))
  (br (decide ((↑a1.length : Int) > (20 : Int))) (some ((true, ()), (), (), (), (), ()))
    (br (decide ((↑a2.length : Int) > (20 : Int))) (some ((true, ()), (), (), (), (), ()))
      (br (!true) (some ((true, ()), (), (), (), (), ()))
        (bd (grd (lenOk a0) (((storesS a0).1, (storesS a0).2, ()), (), ()))
          fun
            (x1 :
              ((Int × Int × Int × List ((Int × Int) × List (Int × Int)) × Unit) ×
                  (Int × Int × List ((Int × Int) × List (Int × Int)) × Unit) × Unit) ×
                Unit × Unit) =>
          bd
            (grd
              (stoOk (x1.1.1.1, x1.1.1.2.1, x1.1.1.2.2.1, x1.1.1.2.2.2.1, ()) &&
                (viewOk (x1.1.1.1, [], []) &&
                  spanR ((spanS a3).1, (spanS a3).2.1, minI (spanS a3).2.2 (IntKind.i64.wrap ((spanS a3).2.1 + (60 : Int))))))
              ((lookP x1.1.1.2.2.2.1 (x1.1.1.1, [], [])
                    ((spanS a3).1, (spanS a3).2.1, minI (spanS a3).2.2 (IntKind.i64.wrap ((spanS a3).2.1 + (60 : Int)))),
                  ()),
                (x1.1.1.1, x1.1.1.2.1, x1.1.1.2.2.1, x1.1.1.2.2.2.1, ()), (), (), ()))
            fun (x2 : (List Int × Unit) × (Int × Int × Int × List ((Int × Int) × List (Int × Int)) × Unit) × Unit × Unit × Unit) =>
            bd
              (grd (viewOk (x2.2.1.1, [], []) && (decide ((cellsS a1).length ≤ (100000 : Nat)) && decide ((cellsS a1).length ≤ (cellsS a1).length)))
                (((viewWrite (x2.2.1.1, [], []) (List.take (cellsS a1).length (cellsS a1)) (100 : Int)).1,
                    (viewWrite (x2.2.1.1, [], []) (List.take (cellsS a1).length (cellsS a1)) (100 : Int)).2, ()),
                  (), cellsS a1, (), ()))
              fun
                (x3 : ((Int × List (Int × Int × Int) × List ((Int × Int) × Int)) × Int × Unit) × Unit × List ((Int × Int) × Int) × Unit × Unit) =>
              br (decide ((↑(cellsS a2).length : Int) > (0 : Int)))
                (bd
                  (grd (stoOk (x2.2.1.1, x2.2.1.2.1, x2.2.1.2.2.1, x2.2.1.2.2.2.1, ()) && lenOk (cellsS a2))
                    (((instS (x2.2.1.1, x2.2.1.2.1, x2.2.1.2.2.1, x2.2.1.2.2.2.1, ()) (cellsS a2)).1.1,
                        (instS (x2.2.1.1, x2.2.1.2.1, x2.2.1.2.2.1, x2.2.1.2.2.2.1, ()) (cellsS a2)).1.2, ()),
                      (instS (x2.2.1.1, x2.2.1.2.1, x2.2.1.2.2.1, x2.2.1.2.2.2.1, ()) (cellsS a2)).2, (), ()))
                  fun (x4 : (Int × Int × Unit) × (Int × Int × Int × List ((Int × Int) × List (Int × Int)) × Unit) × Unit × Unit) =>
                  br (x4.1.2.1 != (0 : Int)) (some ((false, ()), (), (), (), (), ()))
                    (bd
                      (grd
                        (stoOk (x4.2.1.1, x4.2.1.2.1, x4.2.1.2.2.1, x4.2.1.2.2.2.1, ()) &&
                          (viewOk (x3.1.1.1, x3.1.1.2.1, x3.1.1.2.2) &&
                            spanR ((spanS a3).1, (spanS a3).2.1, minI (spanS a3).2.2 (IntKind.i64.wrap ((spanS a3).2.1 + (60 : Int))))))
                        (((viewRead (x3.1.1.1, x3.1.1.2.1, x3.1.1.2.2)
                                  ((spanS a3).1, (spanS a3).2.1, minI (spanS a3).2.2 (IntKind.i64.wrap ((spanS a3).2.1 + (60 : Int)))) (100 : Int)
                                  (lookP x4.2.1.2.2.2.1 (x3.1.1.1, x3.1.1.2.1, x3.1.1.2.2)
                                    ((spanS a3).1, (spanS a3).2.1, minI (spanS a3).2.2 (IntKind.i64.wrap ((spanS a3).2.1 + (60 : Int)))))).1.1,
                            (viewRead (x3.1.1.1, x3.1.1.2.1, x3.1.1.2.2)
                                  ((spanS a3).1, (spanS a3).2.1, minI (spanS a3).2.2 (IntKind.i64.wrap ((spanS a3).2.1 + (60 : Int)))) (100 : Int)
                                  (lookP x4.2.1.2.2.2.1 (x3.1.1.1, x3.1.1.2.1, x3.1.1.2.2)
                                    ((spanS a3).1, (spanS a3).2.1, minI (spanS a3).2.2 (IntKind.i64.wrap ((spanS a3).2.1 + (60 : Int)))))).1.2,
                            (viewRead (x3.1.1.1, x3.1.1.2.1, x3.1.1.2.2)
                                ((spanS a3).1, (spanS a3).2.1, minI (spanS a3).2.2 (IntKind.i64.wrap ((spanS a3).2.1 + (60 : Int)))) (100 : Int)
                                (lookP x4.2.1.2.2.2.1 (x3.1.1.1, x3.1.1.2.1, x3.1.1.2.2)
                                  ((spanS a3).1, (spanS a3).2.1, minI (spanS a3).2.2 (IntKind.i64.wrap ((spanS a3).2.1 + (60 : Int)))))).2,
                            ()),
                          (x4.2.1.1, x4.2.1.2.1, x4.2.1.2.2.1, x4.2.1.2.2.2.1, ()), (), (), (), ()))
                      fun
                        (x5 :
                          ((Int × List (Int × Int × Int) × List ((Int × Int) × Int)) × List Int × Int × Unit) ×
                            (Int × Int × Int × List ((Int × Int) × List (Int × Int)) × Unit) × Unit × Unit × Unit × Unit) =>
                      br (x3.1.2.1 != (0 : Int)) (some ((false, ()), (), (), (), (), ()))
                        (br (x5.1.2.2.1 != (0 : Int)) (some ((false, ()), (), (), (), (), ()))
                          (br
                            ((↑x5.1.2.1.length : Int) !=
                              IntKind.i64.wrap (minI (spanS a3).2.2 (IntKind.i64.wrap ((spanS a3).2.1 + (60 : Int))) - (spanS a3).2.1))
                            (some ((false, ()), (), (), (), (), ()))
                            (br ((↑x2.1.1.length : Int) != (↑x5.1.2.1.length : Int))
                              (some ((false, ()), (), (), (), (), ()))
                              (loopN lViewOwn_L1 K
                                (((spanS a3).1, (spanS a3).2.1, minI (spanS a3).2.2 (IntKind.i64.wrap ((spanS a3).2.1 + (60 : Int))), ()),
                                  x2.1.1, x3.2.2.1, (x5.1.1.1, x5.1.1.2.1, x5.1.1.2.2, ()), x5.1.2.1, (0 : Int), ())))))))
                (bd
                  (grd
                    (stoOk (x2.2.1.1, x2.2.1.2.1, x2.2.1.2.2.1, x2.2.1.2.2.2.1, ()) &&
                      (viewOk (x3.1.1.1, x3.1.1.2.1, x3.1.1.2.2) &&
                        spanR ((spanS a3).1, (spanS a3).2.1, minI (spanS a3).2.2 (IntKind.i64.wrap ((spanS a3).2.1 + (60 : Int))))))
                    (((viewRead (x3.1.1.1, x3.1.1.2.1, x3.1.1.2.2)
                              ((spanS a3).1, (spanS a3).2.1, minI (spanS a3).2.2 (IntKind.i64.wrap ((spanS a3).2.1 + (60 : Int)))) (100 : Int)
                              (lookP x2.2.1.2.2.2.1 (x3.1.1.1, x3.1.1.2.1, x3.1.1.2.2)
                                ((spanS a3).1, (spanS a3).2.1, minI (spanS a3).2.2 (IntKind.i64.wrap ((spanS a3).2.1 + (60 : Int)))))).1.1,
                        (viewRead (x3.1.1.1, x3.1.1.2.1, x3.1.1.2.2)
                              ((spanS a3).1, (spanS a3).2.1, minI (spanS a3).2.2 (IntKind.i64.wrap ((spanS a3).2.1 + (60 : Int)))) (100 : Int)
                              (lookP x2.2.1.2.2.2.1 (x3.1.1.1, x3.1.1.2.1, x3.1.1.2.2)
                                ((spanS a3).1, (spanS a3).2.1, minI (spanS a3).2.2 (IntKind.i64.wrap ((spanS a3).2.1 + (60 : Int)))))).1.2,
                        (viewRead (x3.1.1.1, x3.1.1.2.1, x3.1.1.2.2)
                            ((spanS a3).1, (spanS a3).2.1, minI (spanS a3).2.2 (IntKind.i64.wrap ((spanS a3).2.1 + (60 : Int)))) (100 : Int)
                            (lookP x2.2.1.2.2.2.1 (x3.1.1.1, x3.1.1.2.1, x3.1.1.2.2)
                              ((spanS a3).1, (spanS a3).2.1, minI (spanS a3).2.2 (IntKind.i64.wrap ((spanS a3).2.1 + (60 : Int)))))).2,
                        ()),
                      (x2.2.1.1, x2.2.1.2.1, x2.2.1.2.2.1, x2.2.1.2.2.2.1, ()), (), (), (), ()))
                  fun
                    (x17 :
                      ((Int × List (Int × Int × Int) × List ((Int × Int) × Int)) × List Int × Int × Unit) ×
                        (Int × Int × Int × List ((Int × Int) × List (Int × Int)) × Unit) × Unit × Unit × Unit × Unit) =>
                  br (x3.1.2.1 != (0 : Int)) (some ((false, ()), (), (), (), (), ()))
                    (br (x17.1.2.2.1 != (0 : Int)) (some ((false, ()), (), (), (), (), ()))
                      (br
                        ((↑x17.1.2.1.length : Int) !=
                          IntKind.i64.wrap (minI (spanS a3).2.2 (IntKind.i64.wrap ((spanS a3).2.1 + (60 : Int))) - (spanS a3).2.1))
                        (some ((false, ()), (), (), (), (), ()))
                        (br ((↑x2.1.1.length : Int) != (↑x17.1.2.1.length : Int))
                          (some ((false, ()), (), (), (), (), ()))
                          (loopN lViewOwn_L2 K
                            (((spanS a3).1, (spanS a3).2.1, minI (spanS a3).2.2 (IntKind.i64.wrap ((spanS a3).2.1 + (60 : Int))), ()), x2.1.1,
                              x3.2.2.1, (x17.1.1.1, x17.1.1.2.1, x17.1.1.2.2, ()), x17.1.2.1, (0 : Int), ()))))))))))
theorem lViewOwn_rn (K : Nat) (a0 : List
  Int) (a1 : List
  Int) (a2 : List
  Int) (a3 : Int) : runF (cfgW g_lViewOwn) K f_lViewOwn lViewOwn_tm [.val (.slice tI), .val (.slice tI), .val (.slice tI), .val tI] [.val .bool] (a0, a1, a2, a3, ()) = lViewOwn_P K a0 a1 a2 a3 := by kernel_rfl
abbrev g_lViewLimits : List (Nat × Ctr O0) := [(n_awake19, c_awake19), (n_within, c_within), (n_stNew, c_stNew), (n_viewRead, c_viewRead), (n_viewWrite, c_viewWrite)]
def lViewLimits_tm : List Tm := [[((0 : Nat), none, Sh.val (Ty.int IntKind.i64)), ((1 : Nat), none, Sh.val (Ty.int IntKind.i64)),
    ((5 : Nat), none,
      ((Sh.val (Ty.int IntKind.u64)).cons
          ((Sh.val (Ty.int IntKind.i64)).cons
            ((Sh.val (Ty.int IntKind.i64)).cons
              ((Sh.map (MapK.mapS ((Ty.int IntKind.i64).pair (Ty.int IntKind.i64)) ((Ty.int IntKind.u64).pair (Ty.int IntKind.u16)))).cons
                Sh.unit)))).ptr),
    ((6 : Nat), none,
      ((Sh.val (Ty.int IntKind.u64)).cons
          ((Sh.val ((Ty.int IntKind.i64).pair ((Ty.int IntKind.i64).pair (Ty.int IntKind.i64))).slice).cons
            ((Sh.val (((Ty.int IntKind.i64).pair (Ty.int IntKind.i64)).pair (Ty.int IntKind.u16)).slice).cons Sh.unit))).ptr),
    ((7 : Nat), none, Sh.val (Ty.int IntKind.i64))],
  [((0 : Nat), none, Sh.val (Ty.int IntKind.i64)), ((1 : Nat), none, Sh.val (Ty.int IntKind.i64)),
    ((5 : Nat), none,
      ((Sh.val (Ty.int IntKind.u64)).cons
          ((Sh.val (Ty.int IntKind.i64)).cons
            ((Sh.val (Ty.int IntKind.i64)).cons
              ((Sh.map (MapK.mapS ((Ty.int IntKind.i64).pair (Ty.int IntKind.i64)) ((Ty.int IntKind.u64).pair (Ty.int IntKind.u16)))).cons
                Sh.unit)))).ptr),
    ((6 : Nat), none,
      ((Sh.val (Ty.int IntKind.u64)).cons
          ((Sh.val ((Ty.int IntKind.i64).pair ((Ty.int IntKind.i64).pair (Ty.int IntKind.i64))).slice).cons
            ((Sh.val (((Ty.int IntKind.i64).pair (Ty.int IntKind.i64)).pair (Ty.int IntKind.u16)).slice).cons Sh.unit))).ptr),
    ((11 : Nat), none, Sh.val (Ty.int IntKind.i64))]]
def lViewLimits_L1 (rec11 : Int ×
    Int ×
      (Int × Int × Int × List ((Int × Int) × List (Int × Int)) × Unit) ×
        (Int × List (Int × Int × Int) × List ((Int × Int) × Int) × Unit) × Int × Unit →
  Option
    ((Bool × Unit) ×
      Unit ×
        Unit ×
          Unit)) : Int ×
    Int ×
      (Int × Int × Int × List ((Int × Int) × List (Int × Int)) × Unit) ×
        (Int × List (Int × Int × Int) × List ((Int × Int) × Int) × Unit) × Int × Unit →
  Option ((Bool × Unit) × Unit × Unit × Unit) := fun (y13, y14, y15, y16, y17, ()) =>
  br (decide (y17 ≤ y14))
  (bd
    (grd
      (viewOk (y16.1, y16.2.1, y16.2.2.1) &&
        (decide ([(((0 : Int), IntKind.i64.wrap ((2 : Int) * y17)), (1 : Int))].length ≤ (100000 : Nat)) && true))
      (((viewWrite (y16.1, y16.2.1, y16.2.2.1)
              (List.take [(((0 : Int), IntKind.i64.wrap ((2 : Int) * y17)), (1 : Int))].length
                [(((0 : Int), IntKind.i64.wrap ((2 : Int) * y17)), (1 : Int))])
              y14).1,
          (viewWrite (y16.1, y16.2.1, y16.2.2.1)
              (List.take [(((0 : Int), IntKind.i64.wrap ((2 : Int) * y17)), (1 : Int))].length
                [(((0 : Int), IntKind.i64.wrap ((2 : Int) * y17)), (1 : Int))])
              y14).2,
          ()),
        (), [(((0 : Int), IntKind.i64.wrap ((2 : Int) * y17)), (1 : Int))], (), ()))
    fun (x18 : ((Int × List (Int × Int × Int) × List ((Int × Int) × Int)) × Int × Unit) × Unit × List ((Int × Int) × Int) × Unit × Unit) =>
    br (!(x18.1.2.1 == (0 : Int)) == decide (y17 < y14)) (some ((false, ()), (), (), ()))
      (br (x18.1.2.1 != (0 : Int))
        (br (x18.1.2.1 != (4 : Int)) (some ((false, ()), (), (), ()))
          (br ((↑x18.1.1.2.2.length : Int) != y14) (some ((false, ()), (), (), ()))
            (br (x18.1.2.1 == (0 : Int))
              (br ((↑x18.1.1.2.2.length : Int) != IntKind.i64.wrap (y17 + (1 : Int))) (some ((false, ()), (), (), ()))
                (rec11
                  (y13, y14, (y15.1, y15.2.1, y15.2.2.1, y15.2.2.2.1, ()), (x18.1.1.1, x18.1.1.2.1, x18.1.1.2.2, ()),
                    IntKind.i64.wrap (y17 + (1 : Int)), ())))
              (rec11
                (y13, y14, (y15.1, y15.2.1, y15.2.2.1, y15.2.2.2.1, ()), (x18.1.1.1, x18.1.1.2.1, x18.1.1.2.2, ()),
                  IntKind.i64.wrap (y17 + (1 : Int)), ())))))
        (br (x18.1.2.1 == (0 : Int))
          (br ((↑x18.1.1.2.2.length : Int) != IntKind.i64.wrap (y17 + (1 : Int))) (some ((false, ()), (), (), ()))
            (rec11
              (y13, y14, (y15.1, y15.2.1, y15.2.2.1, y15.2.2.2.1, ()), (x18.1.1.1, x18.1.1.2.1, x18.1.1.2.2, ()),
                IntKind.i64.wrap (y17 + (1 : Int)), ())))
          (rec11
            (y13, y14, (y15.1, y15.2.1, y15.2.2.1, y15.2.2.2.1, ()), (x18.1.1.1, x18.1.1.2.1, x18.1.1.2.2, ()),
              IntKind.i64.wrap (y17 + (1 : Int)), ())))))
  (br (decide (y13 > (0 : Int)))
    (bd
      (grd
        (stoOk (y15.1, y15.2.1, y15.2.2.1, y15.2.2.2.1, ()) &&
          (viewOk (y16.1, y16.2.1, y16.2.2.1) && spanR ((1 : Int), (0 : Int), (2 : Int))))
        (((viewRead (y16.1, y16.2.1, y16.2.2.1) ((1 : Int), (0 : Int), (2 : Int)) y13
                  (lookP y15.2.2.2.1 (y16.1, y16.2.1, y16.2.2.1) ((1 : Int), (0 : Int), (2 : Int)))).1.1,
            (viewRead (y16.1, y16.2.1, y16.2.2.1) ((1 : Int), (0 : Int), (2 : Int)) y13
                  (lookP y15.2.2.2.1 (y16.1, y16.2.1, y16.2.2.1) ((1 : Int), (0 : Int), (2 : Int)))).1.2,
            (viewRead (y16.1, y16.2.1, y16.2.2.1) ((1 : Int), (0 : Int), (2 : Int)) y13
                (lookP y15.2.2.2.1 (y16.1, y16.2.1, y16.2.2.1) ((1 : Int), (0 : Int), (2 : Int)))).2,
            ()),
          (y15.1, y15.2.1, y15.2.2.1, y15.2.2.2.1, ()), (), (), (), ()))
      fun
        (x19 :
          ((Int × List (Int × Int × Int) × List ((Int × Int) × Int)) × List Int × Int × Unit) ×
            (Int × Int × Int × List ((Int × Int) × List (Int × Int)) × Unit) × Unit × Unit × Unit × Unit) =>
      br (x19.1.2.2.1 != (0 : Int)) (some ((false, ()), (), (), ()))
        (br (decide (y14 > (0 : Int)))
          (bd
            (grd (viewOk (y16.1, y16.2.1, y16.2.2.1) && (decide ([(((0 : Int), (0 : Int)), (0 : Int))].length ≤ (100000 : Nat)) && true))
              (((viewWrite (y16.1, y16.2.1, y16.2.2.1) (List.take [(((0 : Int), (0 : Int)), (0 : Int))].length [(((0 : Int), (0 : Int)), (0 : Int))])
                      y14).1,
                  (viewWrite (y16.1, y16.2.1, y16.2.2.1)
                      (List.take [(((0 : Int), (0 : Int)), (0 : Int))].length [(((0 : Int), (0 : Int)), (0 : Int))]) y14).2,
                  ()),
                (), [(((0 : Int), (0 : Int)), (0 : Int))], (), ()))
            fun
              (x20 : ((Int × List (Int × Int × Int) × List ((Int × Int) × Int)) × Int × Unit) × Unit × List ((Int × Int) × Int) × Unit × Unit) =>
            br (x20.1.2.1 != (0 : Int)) (some ((false, ()), (), (), ()))
              (br ((↑y16.2.1.length : Int) == y13) (some (((↑y16.2.2.1.length : Int) == y14, ()), (), (), ()))
                (some ((false, ()), (), (), ()))))
          (br ((↑y16.2.1.length : Int) == y13) (some (((↑y16.2.2.1.length : Int) == y14, ()), (), (), ()))
            (some ((false, ()), (), (), ())))))
    (br (decide (y14 > (0 : Int)))
      (bd
        (grd (viewOk (y16.1, y16.2.1, y16.2.2.1) && (decide ([(((0 : Int), (0 : Int)), (0 : Int))].length ≤ (100000 : Nat)) && true))
          (((viewWrite (y16.1, y16.2.1, y16.2.2.1) (List.take [(((0 : Int), (0 : Int)), (0 : Int))].length [(((0 : Int), (0 : Int)), (0 : Int))])
                  y14).1,
              (viewWrite (y16.1, y16.2.1, y16.2.2.1) (List.take [(((0 : Int), (0 : Int)), (0 : Int))].length [(((0 : Int), (0 : Int)), (0 : Int))])
                  y14).2,
              ()),
            (), [(((0 : Int), (0 : Int)), (0 : Int))], (), ()))
        fun (x21 : ((Int × List (Int × Int × Int) × List ((Int × Int) × Int)) × Int × Unit) × Unit × List ((Int × Int) × Int) × Unit × Unit) =>
        br (x21.1.2.1 != (0 : Int)) (some ((false, ()), (), (), ()))
          (br ((↑y16.2.1.length : Int) == y13) (some (((↑y16.2.2.1.length : Int) == y14, ()), (), (), ()))
            (some ((false, ()), (), (), ()))))
      (br ((↑y16.2.1.length : Int) == y13) (some (((↑y16.2.2.1.length : Int) == y14, ()), (), (), ()))
        (some ((false, ()), (), (), ())))))
def lViewLimits_L2 (K : Nat) (rec3 : Int ×
    Int ×
      (Int × Int × Int × List ((Int × Int) × List (Int × Int)) × Unit) ×
        (Int × List (Int × Int × Int) × List ((Int × Int) × Int) × Unit) × Int × Unit →
  Option
    ((Bool × Unit) ×
      Unit ×
        Unit ×
          Unit)) : Int ×
    Int ×
      (Int × Int × Int × List ((Int × Int) × List (Int × Int)) × Unit) ×
        (Int × List (Int × Int × Int) × List ((Int × Int) × Int) × Unit) × Int × Unit →
  Option ((Bool × Unit) × Unit × Unit × Unit) := fun (y5, y6, y7, y8, y9, ()) =>
  br (decide (y9 ≤ y5))
  (bd
    (grd
      (stoOk (y7.1, y7.2.1, y7.2.2.1, y7.2.2.2.1, ()) &&
        (viewOk (y8.1, y8.2.1, y8.2.2.1) &&
          spanR ((1 : Int), IntKind.i64.wrap ((3 : Int) * y9), IntKind.i64.wrap (IntKind.i64.wrap ((3 : Int) * y9) + (2 : Int)))))
      (((viewRead (y8.1, y8.2.1, y8.2.2.1)
                ((1 : Int), IntKind.i64.wrap ((3 : Int) * y9), IntKind.i64.wrap (IntKind.i64.wrap ((3 : Int) * y9) + (2 : Int))) y5
                (lookP y7.2.2.2.1 (y8.1, y8.2.1, y8.2.2.1)
                  ((1 : Int), IntKind.i64.wrap ((3 : Int) * y9), IntKind.i64.wrap (IntKind.i64.wrap ((3 : Int) * y9) + (2 : Int))))).1.1,
          (viewRead (y8.1, y8.2.1, y8.2.2.1)
                ((1 : Int), IntKind.i64.wrap ((3 : Int) * y9), IntKind.i64.wrap (IntKind.i64.wrap ((3 : Int) * y9) + (2 : Int))) y5
                (lookP y7.2.2.2.1 (y8.1, y8.2.1, y8.2.2.1)
                  ((1 : Int), IntKind.i64.wrap ((3 : Int) * y9), IntKind.i64.wrap (IntKind.i64.wrap ((3 : Int) * y9) + (2 : Int))))).1.2,
          (viewRead (y8.1, y8.2.1, y8.2.2.1)
              ((1 : Int), IntKind.i64.wrap ((3 : Int) * y9), IntKind.i64.wrap (IntKind.i64.wrap ((3 : Int) * y9) + (2 : Int))) y5
              (lookP y7.2.2.2.1 (y8.1, y8.2.1, y8.2.2.1)
                ((1 : Int), IntKind.i64.wrap ((3 : Int) * y9), IntKind.i64.wrap (IntKind.i64.wrap ((3 : Int) * y9) + (2 : Int))))).2,
          ()),
        (y7.1, y7.2.1, y7.2.2.1, y7.2.2.2.1, ()), (), (), (), ()))
    fun
      (x10 :
        ((Int × List (Int × Int × Int) × List ((Int × Int) × Int)) × List Int × Int × Unit) ×
          (Int × Int × Int × List ((Int × Int) × List (Int × Int)) × Unit) × Unit × Unit × Unit × Unit) =>
    br (!(x10.1.2.2.1 == (0 : Int)) == decide (y9 < y5)) (some ((false, ()), (), (), ()))
      (br (x10.1.2.2.1 != (0 : Int))
        (br (x10.1.2.2.1 != (4 : Int)) (some ((false, ()), (), (), ()))
          (br ((↑x10.1.2.1.length : Int) != (0 : Int)) (some ((false, ()), (), (), ()))
            (br ((↑x10.1.1.2.1.length : Int) != y5) (some ((false, ()), (), (), ()))
              (br (x10.1.2.2.1 == (0 : Int))
                (br ((↑x10.1.2.1.length : Int) != (2 : Int)) (some ((false, ()), (), (), ()))
                  (br ((↑x10.1.1.2.1.length : Int) != IntKind.i64.wrap (y9 + (1 : Int)))
                    (some ((false, ()), (), (), ()))
                    (rec3
                      (y5, y6, (x10.2.1.1, x10.2.1.2.1, x10.2.1.2.2.1, x10.2.1.2.2.2.1, ()),
                        (x10.1.1.1, x10.1.1.2.1, x10.1.1.2.2, ()), IntKind.i64.wrap (y9 + (1 : Int)), ()))))
                (rec3
                  (y5, y6, (x10.2.1.1, x10.2.1.2.1, x10.2.1.2.2.1, x10.2.1.2.2.2.1, ()), (x10.1.1.1, x10.1.1.2.1, x10.1.1.2.2, ()),
                    IntKind.i64.wrap (y9 + (1 : Int)), ()))))))
        (br (x10.1.2.2.1 == (0 : Int))
          (br ((↑x10.1.2.1.length : Int) != (2 : Int)) (some ((false, ()), (), (), ()))
            (br ((↑x10.1.1.2.1.length : Int) != IntKind.i64.wrap (y9 + (1 : Int))) (some ((false, ()), (), (), ()))
              (rec3
                (y5, y6, (x10.2.1.1, x10.2.1.2.1, x10.2.1.2.2.1, x10.2.1.2.2.2.1, ()), (x10.1.1.1, x10.1.1.2.1, x10.1.1.2.2, ()),
                  IntKind.i64.wrap (y9 + (1 : Int)), ()))))
          (rec3
            (y5, y6, (x10.2.1.1, x10.2.1.2.1, x10.2.1.2.2.1, x10.2.1.2.2.2.1, ()), (x10.1.1.1, x10.1.1.2.1, x10.1.1.2.2, ()),
              IntKind.i64.wrap (y9 + (1 : Int)), ())))))
  (loopN lViewLimits_L1 K (y5, y6, (y7.1, y7.2.1, y7.2.2.1, y7.2.2.2.1, ()), (y8.1, y8.2.1, y8.2.2.1, ()), (0 : Int), ()))
def lViewLimits_P (K : Nat) (a0 : Int) (a1 : Int) : Option ((Bool × Unit) × Unit × Unit × Unit) :=
  br (!true) (some ((false, ()), (), (), ()))
  (bd (grd (true && decide ((30 : Int) < (4611686018427387904 : Int))) ((a0 % (30 : Int), ()), (), (), ()))
    fun (x1 : (Int × Unit) × Unit × Unit × Unit) =>
    bd (grd (true && decide ((30 : Int) < (4611686018427387904 : Int))) ((a1 % (30 : Int), ()), (), (), ()))
      fun (x2 : (Int × Unit) × Unit × Unit × Unit) =>
      loopN (lViewLimits_L2 K) K
        (x1.1.1, x2.1.1,
          ((stNewS (0 : Int) (10 : Int)).1, (stNewS (0 : Int) (10 : Int)).2.1, (stNewS (0 : Int) (10 : Int)).2.2.1,
            (stNewS (0 : Int) (10 : Int)).2.2.2.1, ()),
          ((0 : Int), [], [], ()), (0 : Int), ()))
theorem lViewLimits_rn (K : Nat) (a0 : Int) (a1 : Int) : runF (cfgW g_lViewLimits) K f_lViewLimits lViewLimits_tm [.val tI, .val tI] [.val .bool] (a0, a1, ()) = lViewLimits_P K a0 a1 := by kernel_rfl
abbrev g_lViewAgain : List (Nat × Ctr O0) := [(n_awake19, c_awake19), (n_stores, c_stores), (n_stLast, c_stLast), (n_within, c_within), (n_short, c_short), (n_viewRead, c_viewRead), (n_sameWords, c_sameWords), (n_sameSpans, c_sameSpans), (n_rcovers, c_rcovers), (n_rcanon, c_rcanon)]
def lViewAgain_tm : List Tm := [[((0 : Nat), none, Sh.val (Ty.int IntKind.i64).slice), ((1 : Nat), none, Sh.val (Ty.int IntKind.i64)),
    ((7 : Nat), none,
      ((Sh.val (Ty.int IntKind.u64)).cons
          ((Sh.val (Ty.int IntKind.i64)).cons
            ((Sh.val (Ty.int IntKind.i64)).cons
              ((Sh.map (MapK.mapS ((Ty.int IntKind.i64).pair (Ty.int IntKind.i64)) ((Ty.int IntKind.u64).pair (Ty.int IntKind.u16)))).cons
                Sh.unit)))).ptr),
    ((9 : Nat), none,
      ((Sh.val (Ty.int IntKind.u64)).cons
          ((Sh.val ((Ty.int IntKind.i64).pair ((Ty.int IntKind.i64).pair (Ty.int IntKind.i64))).slice).cons
            ((Sh.val (((Ty.int IntKind.i64).pair (Ty.int IntKind.i64)).pair (Ty.int IntKind.u16)).slice).cons Sh.unit))).ptr),
    ((10 : Nat), none,
      ((Sh.val (Ty.int IntKind.u64)).cons
          ((Sh.val ((Ty.int IntKind.i64).pair ((Ty.int IntKind.i64).pair (Ty.int IntKind.i64))).slice).cons
            ((Sh.val (((Ty.int IntKind.i64).pair (Ty.int IntKind.i64)).pair (Ty.int IntKind.u16)).slice).cons Sh.unit))).ptr),
    ((11 : Nat), none, Sh.val (Ty.int IntKind.i64))]]
def lViewAgain_L1 (rec2 : List Int ×
    Int ×
      (Int × Int × Int × List ((Int × Int) × List (Int × Int)) × Unit) ×
        (Int × List (Int × Int × Int) × List ((Int × Int) × Int) × Unit) ×
          (Int × List (Int × Int × Int) × List ((Int × Int) × Int) × Unit) × Int × Unit →
  Option
    ((Bool × Unit) ×
      Unit ×
        Unit ×
          Unit ×
            Unit)) : List Int ×
    Int ×
      (Int × Int × Int × List ((Int × Int) × List (Int × Int)) × Unit) ×
        (Int × List (Int × Int × Int) × List ((Int × Int) × Int) × Unit) ×
          (Int × List (Int × Int × Int) × List ((Int × Int) × Int) × Unit) × Int × Unit →
  Option ((Bool × Unit) × Unit × Unit × Unit × Unit) := fun (y4, y5, y6, y7, y8, y9, ()) =>
  br (decide (y9 < (↑y4.length : Int)))
  (br (decide ((0 : Int) ≤ y9))
    (br (decide (y9 < (↑y4.length : Int)))
      (bd (grd (true && decide ((12 : Int) < (4611686018427387904 : Int))) ((y5 % (12 : Int), ()), (), (), ()))
        fun (x10 : (Int × Unit) × Unit × Unit × Unit) =>
        bd
          (grd (decide ((0 : Int) < (↑y4.length : Int)) && decide ((↑y4.length : Int) < (4611686018427387904 : Int)))
            ((IntKind.i64.wrap (x10.1.1 + y9) % (↑y4.length : Int), ()), (), (), ()))
          fun (x11 : (Int × Unit) × Unit × Unit × Unit) =>
          br (decide ((0 : Int) ≤ x11.1.1))
            (br (decide (x11.1.1 < (↑y4.length : Int)))
              (bd
                (grd
                  (stoOk (y6.1, y6.2.1, y6.2.2.1, y6.2.2.2.1, ()) &&
                    (viewOk (y7.1, y7.2.1, y7.2.2.1) &&
                      spanR
                        ((shortS (y4.getD y9.toNat (0 : Int))).1, (shortS (y4.getD y9.toNat (0 : Int))).2.1,
                          (shortS (y4.getD y9.toNat (0 : Int))).2.2)))
                  (((viewRead (y7.1, y7.2.1, y7.2.2.1)
                            ((shortS (y4.getD y9.toNat (0 : Int))).1, (shortS (y4.getD y9.toNat (0 : Int))).2.1,
                              (shortS (y4.getD y9.toNat (0 : Int))).2.2)
                            (50 : Int)
                            (lookP y6.2.2.2.1 (y7.1, y7.2.1, y7.2.2.1)
                              ((shortS (y4.getD y9.toNat (0 : Int))).1, (shortS (y4.getD y9.toNat (0 : Int))).2.1,
                                (shortS (y4.getD y9.toNat (0 : Int))).2.2))).1.1,
                      (viewRead (y7.1, y7.2.1, y7.2.2.1)
                            ((shortS (y4.getD y9.toNat (0 : Int))).1, (shortS (y4.getD y9.toNat (0 : Int))).2.1,
                              (shortS (y4.getD y9.toNat (0 : Int))).2.2)
                            (50 : Int)
                            (lookP y6.2.2.2.1 (y7.1, y7.2.1, y7.2.2.1)
                              ((shortS (y4.getD y9.toNat (0 : Int))).1, (shortS (y4.getD y9.toNat (0 : Int))).2.1,
                                (shortS (y4.getD y9.toNat (0 : Int))).2.2))).1.2,
                      (viewRead (y7.1, y7.2.1, y7.2.2.1)
                          ((shortS (y4.getD y9.toNat (0 : Int))).1, (shortS (y4.getD y9.toNat (0 : Int))).2.1,
                            (shortS (y4.getD y9.toNat (0 : Int))).2.2)
                          (50 : Int)
                          (lookP y6.2.2.2.1 (y7.1, y7.2.1, y7.2.2.1)
                            ((shortS (y4.getD y9.toNat (0 : Int))).1, (shortS (y4.getD y9.toNat (0 : Int))).2.1,
                              (shortS (y4.getD y9.toNat (0 : Int))).2.2))).2,
                      ()),
                    (y6.1, y6.2.1, y6.2.2.1, y6.2.2.2.1, ()), (), (), (), ()))
                fun
                  (x12 :
                    ((Int × List (Int × Int × Int) × List ((Int × Int) × Int)) × List Int × Int × Unit) ×
                      (Int × Int × Int × List ((Int × Int) × List (Int × Int)) × Unit) × Unit × Unit × Unit × Unit) =>
                bd
                  (grd
                    (stoOk (x12.2.1.1, x12.2.1.2.1, x12.2.1.2.2.1, x12.2.1.2.2.2.1, ()) &&
                      (viewOk (y8.1, y8.2.1, y8.2.2.1) &&
                        spanR
                          ((shortS (y4.getD x11.1.1.toNat (0 : Int))).1, (shortS (y4.getD x11.1.1.toNat (0 : Int))).2.1,
                            (shortS (y4.getD x11.1.1.toNat (0 : Int))).2.2)))
                    (((viewRead (y8.1, y8.2.1, y8.2.2.1)
                              ((shortS (y4.getD x11.1.1.toNat (0 : Int))).1, (shortS (y4.getD x11.1.1.toNat (0 : Int))).2.1,
                                (shortS (y4.getD x11.1.1.toNat (0 : Int))).2.2)
                              (50 : Int)
                              (lookP x12.2.1.2.2.2.1 (y8.1, y8.2.1, y8.2.2.1)
                                ((shortS (y4.getD x11.1.1.toNat (0 : Int))).1, (shortS (y4.getD x11.1.1.toNat (0 : Int))).2.1,
                                  (shortS (y4.getD x11.1.1.toNat (0 : Int))).2.2))).1.1,
                        (viewRead (y8.1, y8.2.1, y8.2.2.1)
                              ((shortS (y4.getD x11.1.1.toNat (0 : Int))).1, (shortS (y4.getD x11.1.1.toNat (0 : Int))).2.1,
                                (shortS (y4.getD x11.1.1.toNat (0 : Int))).2.2)
                              (50 : Int)
                              (lookP x12.2.1.2.2.2.1 (y8.1, y8.2.1, y8.2.2.1)
                                ((shortS (y4.getD x11.1.1.toNat (0 : Int))).1, (shortS (y4.getD x11.1.1.toNat (0 : Int))).2.1,
                                  (shortS (y4.getD x11.1.1.toNat (0 : Int))).2.2))).1.2,
                        (viewRead (y8.1, y8.2.1, y8.2.2.1)
                            ((shortS (y4.getD x11.1.1.toNat (0 : Int))).1, (shortS (y4.getD x11.1.1.toNat (0 : Int))).2.1,
                              (shortS (y4.getD x11.1.1.toNat (0 : Int))).2.2)
                            (50 : Int)
                            (lookP x12.2.1.2.2.2.1 (y8.1, y8.2.1, y8.2.2.1)
                              ((shortS (y4.getD x11.1.1.toNat (0 : Int))).1, (shortS (y4.getD x11.1.1.toNat (0 : Int))).2.1,
                                (shortS (y4.getD x11.1.1.toNat (0 : Int))).2.2))).2,
                        ()),
                      (x12.2.1.1, x12.2.1.2.1, x12.2.1.2.2.1, x12.2.1.2.2.2.1, ()), (), (), (), ()))
                  fun
                    (x13 :
                      ((Int × List (Int × Int × Int) × List ((Int × Int) × Int)) × List Int × Int × Unit) ×
                        (Int × Int × Int × List ((Int × Int) × List (Int × Int)) × Unit) × Unit × Unit × Unit × Unit) =>
                  bd
                    (grd
                      (stoOk (x13.2.1.1, x13.2.1.2.1, x13.2.1.2.2.1, x13.2.1.2.2.2.1, ()) &&
                        (viewOk (x12.1.1.1, x12.1.1.2.1, x12.1.1.2.2) &&
                          spanR
                            ((shortS (y4.getD y9.toNat (0 : Int))).1, (shortS (y4.getD y9.toNat (0 : Int))).2.1,
                              (shortS (y4.getD y9.toNat (0 : Int))).2.2)))
                      (((viewRead (x12.1.1.1, x12.1.1.2.1, x12.1.1.2.2)
                                ((shortS (y4.getD y9.toNat (0 : Int))).1, (shortS (y4.getD y9.toNat (0 : Int))).2.1,
                                  (shortS (y4.getD y9.toNat (0 : Int))).2.2)
                                (50 : Int)
                                (lookP x13.2.1.2.2.2.1 (x12.1.1.1, x12.1.1.2.1, x12.1.1.2.2)
                                  ((shortS (y4.getD y9.toNat (0 : Int))).1, (shortS (y4.getD y9.toNat (0 : Int))).2.1,
                                    (shortS (y4.getD y9.toNat (0 : Int))).2.2))).1.1,
                          (viewRead (x12.1.1.1, x12.1.1.2.1, x12.1.1.2.2)
                                ((shortS (y4.getD y9.toNat (0 : Int))).1, (shortS (y4.getD y9.toNat (0 : Int))).2.1,
                                  (shortS (y4.getD y9.toNat (0 : Int))).2.2)
                                (50 : Int)
                                (lookP x13.2.1.2.2.2.1 (x12.1.1.1, x12.1.1.2.1, x12.1.1.2.2)
                                  ((shortS (y4.getD y9.toNat (0 : Int))).1, (shortS (y4.getD y9.toNat (0 : Int))).2.1,
                                    (shortS (y4.getD y9.toNat (0 : Int))).2.2))).1.2,
                          (viewRead (x12.1.1.1, x12.1.1.2.1, x12.1.1.2.2)
                              ((shortS (y4.getD y9.toNat (0 : Int))).1, (shortS (y4.getD y9.toNat (0 : Int))).2.1,
                                (shortS (y4.getD y9.toNat (0 : Int))).2.2)
                              (50 : Int)
                              (lookP x13.2.1.2.2.2.1 (x12.1.1.1, x12.1.1.2.1, x12.1.1.2.2)
                                ((shortS (y4.getD y9.toNat (0 : Int))).1, (shortS (y4.getD y9.toNat (0 : Int))).2.1,
                                  (shortS (y4.getD y9.toNat (0 : Int))).2.2))).2,
                          ()),
                        (x13.2.1.1, x13.2.1.2.1, x13.2.1.2.2.1, x13.2.1.2.2.2.1, ()), (), (), (), ()))
                    fun
                      (x14 :
                        ((Int × List (Int × Int × Int) × List ((Int × Int) × Int)) × List Int × Int × Unit) ×
                          (Int × Int × Int × List ((Int × Int) × List (Int × Int)) × Unit) × Unit × Unit × Unit × Unit) =>
                    br (x12.1.2.2.1 != (0 : Int)) (some ((false, ()), (), (), (), ()))
                      (br (x13.1.2.2.1 != (0 : Int)) (some ((false, ()), (), (), (), ()))
                        (br (x14.1.2.2.1 != (0 : Int)) (some ((false, ()), (), (), (), ()))
                          (bd
                            (grd (decide (x12.1.2.1.length < (1000000 : Nat)))
                              ((sameS x12.1.2.1 x14.1.2.1, ()), (), (), ()))
                            fun (x15 : (Bool × Unit) × Unit × Unit × Unit) =>
                            br (!x15.1.1) (some ((false, ()), (), (), (), ()))
                              (bd
                                (grd (decide (x12.1.1.2.1.length < (1000000 : Nat)))
                                  ((sameS x12.1.1.2.1 x14.1.1.2.1, ()), (), (), ()))
                                fun (x16 : (Bool × Unit) × Unit × Unit × Unit) =>
                                br (!x16.1.1) (some ((false, ()), (), (), (), ()))
                                  (bd
                                    (grd (lenOk x12.1.1.2.1)
                                      ((coverS x12.1.1.2.1
                                            ((shortS (y4.getD y9.toNat (0 : Int))).1, (shortS (y4.getD y9.toNat (0 : Int))).2.1,
                                              (shortS (y4.getD y9.toNat (0 : Int))).2.2),
                                          ()),
                                        (), (), ()))
                                    fun (x17 : (Bool × Unit) × Unit × Unit × Unit) =>
                                    br (!x17.1.1) (some ((false, ()), (), (), (), ()))
                                      (rec2
                                        (y4, y5, (x14.2.1.1, x14.2.1.2.1, x14.2.1.2.2.1, x14.2.1.2.2.2.1, ()),
                                          (x12.1.1.1, x12.1.1.2.1, x12.1.1.2.2, ()), (x13.1.1.1, x13.1.1.2.1, x13.1.1.2.2, ()),
                                          IntKind.i64.wrap (y9 + (1 : Int)), ()))))))))
              none)
            none)
      none)
    none)
  (bd (grd (decide (y7.2.1.length < (1000000 : Nat))) ((sameS y7.2.1 y8.2.1, ()), (), (), ()))
    fun (x18 : (Bool × Unit) × Unit × Unit × Unit) =>
    br x18.1.1
      (bd (grd (lenOk y7.2.1) ((canonS y7.2.1, ()), (), ())) fun (x19 : (Bool × Unit) × Unit × Unit) =>
        br x19.1.1 (some (((↑y7.2.2.1.length : Int) == (0 : Int), ()), (), (), (), ()))
          (some ((false, ()), (), (), (), ())))
      (some ((false, ()), (), (), (), ())))
def lViewAgain_P (K : Nat) (a0 : List Int) (a1 : Int) (a2 : List Int) : Option ((Bool × Unit) × Unit × Unit × Unit × Unit) :=
  br (decide ((↑a0.length : Int) > (12 : Int))) (some ((true, ()), (), (), (), ()))
  (br (decide ((↑a2.length : Int) > (40 : Int))) (some ((true, ()), (), (), (), ()))
    (br (!true) (some ((true, ()), (), (), (), ()))
      (bd (grd (lenOk a2) (((storesS a2).1, (storesS a2).2, ()), (), ()))
        fun
          (x1 :
            ((Int × Int × Int × List ((Int × Int) × List (Int × Int)) × Unit) ×
                (Int × Int × List ((Int × Int) × List (Int × Int)) × Unit) × Unit) ×
              Unit × Unit) =>
        loopN lViewAgain_L1 K
          (a0, a1, (x1.1.1.1, x1.1.1.2.1, x1.1.1.2.2.1, x1.1.1.2.2.2.1, ()), (x1.1.1.1, [], [], ()), (x1.1.1.1, [], [], ()),
            (0 : Int), ()))))
theorem lViewAgain_rn (K : Nat) (a0 : List
  Int) (a1 : Int) (a2 : List
  Int) : runF (cfgW g_lViewAgain) K f_lViewAgain lViewAgain_tm [.val (.slice tI), .val tI, .val (.slice tI)] [.val .bool] (a0, a1, a2, ()) = lViewAgain_P K a0 a1 a2 := by kernel_rfl
abbrev g_lViewBlind : List (Nat × Ctr O0) := [(n_awake19, c_awake19), (n_stNew, c_stNew), (n_cell, c_cell), (n_viewRead, c_viewRead), (n_viewWrite, c_viewWrite), (n_rhas, c_rhas)]
def lViewBlind_tm : List Tm := []
def lViewBlind_P (K : Nat) (a0 : Int) (a1 : Bool) : Option ((Bool × Unit) × Unit × Unit × Unit) :=
  br (!true) (some ((false, ()), (), (), ()))
  (br a1
    (bd
      (grd
        (stoOk
            ((stNewS (0 : Int) (10 : Int)).1, (stNewS (0 : Int) (10 : Int)).2.1, (stNewS (0 : Int) (10 : Int)).2.2.1,
              (stNewS (0 : Int) (10 : Int)).2.2.2.1, ()) &&
          (viewOk ((0 : Int), [], []) && spanR ((cellS a0).1.1, (cellS a0).1.2, IntKind.i64.wrap ((cellS a0).1.2 + (1 : Int)))))
        (((viewRead ((0 : Int), [], []) ((cellS a0).1.1, (cellS a0).1.2, IntKind.i64.wrap ((cellS a0).1.2 + (1 : Int))) (9 : Int)
                  (lookP (stNewS (0 : Int) (10 : Int)).2.2.2.1 ((0 : Int), [], [])
                    ((cellS a0).1.1, (cellS a0).1.2, IntKind.i64.wrap ((cellS a0).1.2 + (1 : Int))))).1.1,
            (viewRead ((0 : Int), [], []) ((cellS a0).1.1, (cellS a0).1.2, IntKind.i64.wrap ((cellS a0).1.2 + (1 : Int))) (9 : Int)
                  (lookP (stNewS (0 : Int) (10 : Int)).2.2.2.1 ((0 : Int), [], [])
                    ((cellS a0).1.1, (cellS a0).1.2, IntKind.i64.wrap ((cellS a0).1.2 + (1 : Int))))).1.2,
            (viewRead ((0 : Int), [], []) ((cellS a0).1.1, (cellS a0).1.2, IntKind.i64.wrap ((cellS a0).1.2 + (1 : Int))) (9 : Int)
                (lookP (stNewS (0 : Int) (10 : Int)).2.2.2.1 ((0 : Int), [], [])
                  ((cellS a0).1.1, (cellS a0).1.2, IntKind.i64.wrap ((cellS a0).1.2 + (1 : Int))))).2,
            ()),
          ((stNewS (0 : Int) (10 : Int)).1, (stNewS (0 : Int) (10 : Int)).2.1, (stNewS (0 : Int) (10 : Int)).2.2.1,
            (stNewS (0 : Int) (10 : Int)).2.2.2.1, ()),
          (), (), (), ()))
      fun
        (x1 :
          ((Int × List (Int × Int × Int) × List ((Int × Int) × Int)) × List Int × Int × Unit) ×
            (Int × Int × Int × List ((Int × Int) × List (Int × Int)) × Unit) × Unit × Unit × Unit × Unit) =>
      br (x1.1.2.2.1 != (0 : Int)) (some ((false, ()), (), (), ()))
        (bd
          (grd
            (viewOk (x1.1.1.1, x1.1.1.2.1, x1.1.1.2.2) &&
              (decide ([(((cellS a0).1.1, (cellS a0).1.2), (cellS a0).2)].length ≤ (100000 : Nat)) && true))
            (((viewWrite (x1.1.1.1, x1.1.1.2.1, x1.1.1.2.2)
                    (List.take [(((cellS a0).1.1, (cellS a0).1.2), (cellS a0).2)].length [(((cellS a0).1.1, (cellS a0).1.2), (cellS a0).2)])
                    (9 : Int)).1,
                (viewWrite (x1.1.1.1, x1.1.1.2.1, x1.1.1.2.2)
                    (List.take [(((cellS a0).1.1, (cellS a0).1.2), (cellS a0).2)].length [(((cellS a0).1.1, (cellS a0).1.2), (cellS a0).2)])
                    (9 : Int)).2,
                ()),
              (), [(((cellS a0).1.1, (cellS a0).1.2), (cellS a0).2)], (), ()))
          fun (x2 : ((Int × List (Int × Int × Int) × List ((Int × Int) × Int)) × Int × Unit) × Unit × List ((Int × Int) × Int) × Unit × Unit) =>
          bd
            (grd
              (stoOk (x1.2.1.1, x1.2.1.2.1, x1.2.1.2.2.1, x1.2.1.2.2.2.1, ()) &&
                (viewOk (x2.1.1.1, x2.1.1.2.1, x2.1.1.2.2) && spanR ((cellS a0).1.1, (cellS a0).1.2, IntKind.i64.wrap ((cellS a0).1.2 + (1 : Int)))))
              (((viewRead (x2.1.1.1, x2.1.1.2.1, x2.1.1.2.2) ((cellS a0).1.1, (cellS a0).1.2, IntKind.i64.wrap ((cellS a0).1.2 + (1 : Int))) (9 : Int)
                        (lookP x1.2.1.2.2.2.1 (x2.1.1.1, x2.1.1.2.1, x2.1.1.2.2)
                          ((cellS a0).1.1, (cellS a0).1.2, IntKind.i64.wrap ((cellS a0).1.2 + (1 : Int))))).1.1,
                  (viewRead (x2.1.1.1, x2.1.1.2.1, x2.1.1.2.2) ((cellS a0).1.1, (cellS a0).1.2, IntKind.i64.wrap ((cellS a0).1.2 + (1 : Int)))
                        (9 : Int)
                        (lookP x1.2.1.2.2.2.1 (x2.1.1.1, x2.1.1.2.1, x2.1.1.2.2)
                          ((cellS a0).1.1, (cellS a0).1.2, IntKind.i64.wrap ((cellS a0).1.2 + (1 : Int))))).1.2,
                  (viewRead (x2.1.1.1, x2.1.1.2.1, x2.1.1.2.2) ((cellS a0).1.1, (cellS a0).1.2, IntKind.i64.wrap ((cellS a0).1.2 + (1 : Int)))
                      (9 : Int)
                      (lookP x1.2.1.2.2.2.1 (x2.1.1.1, x2.1.1.2.1, x2.1.1.2.2)
                        ((cellS a0).1.1, (cellS a0).1.2, IntKind.i64.wrap ((cellS a0).1.2 + (1 : Int))))).2,
                  ()),
                (x1.2.1.1, x1.2.1.2.1, x1.2.1.2.2.1, x1.2.1.2.2.2.1, ()), (), (), (), ()))
            fun
              (x3 :
                ((Int × List (Int × Int × Int) × List ((Int × Int) × Int)) × List Int × Int × Unit) ×
                  (Int × Int × Int × List ((Int × Int) × List (Int × Int)) × Unit) × Unit × Unit × Unit × Unit) =>
            br (x2.1.2.1 == (0 : Int))
              (br (x3.1.2.2.1 == (0 : Int))
                (br ((↑x3.1.2.1.length : Int) == (1 : Int))
                  (br (decide ((0 : Int) < (↑x3.1.2.1.length : Int)))
                    (br (x3.1.2.1.getD (Int.toNat (0 : Int)) (0 : Int) == (cellS a0).2)
                      (bd
                        (grd (lenOk x3.1.1.2.1) ((hasS x3.1.1.2.1 ((cellS a0).1.1, (cellS a0).1.2), ()), (), (), ()))
                        fun (x4 : (Bool × Unit) × Unit × Unit × Unit) => some ((x4.1.1 == a1, ()), (), (), ()))
                      (some ((false, ()), (), (), ())))
                    none)
                  (some ((false, ()), (), (), ())))
                (some ((false, ()), (), (), ())))
              (some ((false, ()), (), (), ()))))
    (bd
      (grd (viewOk ((0 : Int), [], []) && (decide ([(((cellS a0).1.1, (cellS a0).1.2), (cellS a0).2)].length ≤ (100000 : Nat)) && true))
        (((viewWrite ((0 : Int), [], [])
                (List.take [(((cellS a0).1.1, (cellS a0).1.2), (cellS a0).2)].length [(((cellS a0).1.1, (cellS a0).1.2), (cellS a0).2)]) (9 : Int)).1,
            (viewWrite ((0 : Int), [], [])
                (List.take [(((cellS a0).1.1, (cellS a0).1.2), (cellS a0).2)].length [(((cellS a0).1.1, (cellS a0).1.2), (cellS a0).2)]) (9 : Int)).2,
            ()),
          (), [(((cellS a0).1.1, (cellS a0).1.2), (cellS a0).2)], (), ()))
      fun (x5 : ((Int × List (Int × Int × Int) × List ((Int × Int) × Int)) × Int × Unit) × Unit × List ((Int × Int) × Int) × Unit × Unit) =>
      bd
        (grd
          (stoOk
              ((stNewS (0 : Int) (10 : Int)).1, (stNewS (0 : Int) (10 : Int)).2.1, (stNewS (0 : Int) (10 : Int)).2.2.1,
                (stNewS (0 : Int) (10 : Int)).2.2.2.1, ()) &&
            (viewOk (x5.1.1.1, x5.1.1.2.1, x5.1.1.2.2) && spanR ((cellS a0).1.1, (cellS a0).1.2, IntKind.i64.wrap ((cellS a0).1.2 + (1 : Int)))))
          (((viewRead (x5.1.1.1, x5.1.1.2.1, x5.1.1.2.2) ((cellS a0).1.1, (cellS a0).1.2, IntKind.i64.wrap ((cellS a0).1.2 + (1 : Int))) (9 : Int)
                    (lookP (stNewS (0 : Int) (10 : Int)).2.2.2.1 (x5.1.1.1, x5.1.1.2.1, x5.1.1.2.2)
                      ((cellS a0).1.1, (cellS a0).1.2, IntKind.i64.wrap ((cellS a0).1.2 + (1 : Int))))).1.1,
              (viewRead (x5.1.1.1, x5.1.1.2.1, x5.1.1.2.2) ((cellS a0).1.1, (cellS a0).1.2, IntKind.i64.wrap ((cellS a0).1.2 + (1 : Int))) (9 : Int)
                    (lookP (stNewS (0 : Int) (10 : Int)).2.2.2.1 (x5.1.1.1, x5.1.1.2.1, x5.1.1.2.2)
                      ((cellS a0).1.1, (cellS a0).1.2, IntKind.i64.wrap ((cellS a0).1.2 + (1 : Int))))).1.2,
              (viewRead (x5.1.1.1, x5.1.1.2.1, x5.1.1.2.2) ((cellS a0).1.1, (cellS a0).1.2, IntKind.i64.wrap ((cellS a0).1.2 + (1 : Int))) (9 : Int)
                  (lookP (stNewS (0 : Int) (10 : Int)).2.2.2.1 (x5.1.1.1, x5.1.1.2.1, x5.1.1.2.2)
                    ((cellS a0).1.1, (cellS a0).1.2, IntKind.i64.wrap ((cellS a0).1.2 + (1 : Int))))).2,
              ()),
            ((stNewS (0 : Int) (10 : Int)).1, (stNewS (0 : Int) (10 : Int)).2.1, (stNewS (0 : Int) (10 : Int)).2.2.1,
              (stNewS (0 : Int) (10 : Int)).2.2.2.1, ()),
            (), (), (), ()))
        fun
          (x6 :
            ((Int × List (Int × Int × Int) × List ((Int × Int) × Int)) × List Int × Int × Unit) ×
              (Int × Int × Int × List ((Int × Int) × List (Int × Int)) × Unit) × Unit × Unit × Unit × Unit) =>
        br (x5.1.2.1 == (0 : Int))
          (br (x6.1.2.2.1 == (0 : Int))
            (br ((↑x6.1.2.1.length : Int) == (1 : Int))
              (br (decide ((0 : Int) < (↑x6.1.2.1.length : Int)))
                (br (x6.1.2.1.getD (Int.toNat (0 : Int)) (0 : Int) == (cellS a0).2)
                  (bd (grd (lenOk x6.1.1.2.1) ((hasS x6.1.1.2.1 ((cellS a0).1.1, (cellS a0).1.2), ()), (), (), ()))
                    fun (x7 : (Bool × Unit) × Unit × Unit × Unit) => some ((x7.1.1 == a1, ()), (), (), ()))
                  (some ((false, ()), (), (), ())))
                none)
              (some ((false, ()), (), (), ())))
            (some ((false, ()), (), (), ())))
          (some ((false, ()), (), (), ()))))
theorem lViewBlind_rn (K : Nat) (a0 : Int) (a1 : Bool) : runF (cfgW g_lViewBlind) K f_lViewBlind lViewBlind_tm [.val tI, .val .bool] [.val .bool] (a0, a1, ()) = lViewBlind_P K a0 a1 := by kernel_rfl
abbrev g_awake19 : List (Nat × Ctr O0) := [(n_stNew, c_stNew), (n_viewWrite, c_viewWrite), (n_viewRead, c_viewRead)]
theorem awake19_rn : runF (cfgW g_awake19) 3 f_awake19 [] [] [.val .bool] () = some ((true, ()), ()) := by kernel_rfl
end
end Go.BB
