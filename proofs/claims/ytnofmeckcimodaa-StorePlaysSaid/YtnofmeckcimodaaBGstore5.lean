/- A symbolic machine for the model's code, and what it shows of this seat's functions. No conditions. -/
import Derived.Test.YtnofmeckcimodaaBN
import Derived.Test.YtnofmeckcimodaaBGstore3
set_option linter.unusedSimpArgs false
set_option linter.unusedVariables false
namespace Go.BB
open Go Go.Proofs
set_option maxRecDepth 100000
set_option exponentiation.threshold 100000
noncomputable section
abbrev g_lStorePlays : List (Nat × Ctr O0) := [(n_awake17, c_awake17), (n_within, c_within), (n_digit, c_digit), (n_stNew, c_stNew), (n_rstNew, c_rstNew), (n_stInstall, c_stInstall), (n_rstInstall, c_rstInstall), (n_lentCells, c_lentCells), (n_staysCells, c_staysCells), (n_stGc, c_stGc), (n_rstGc, c_rstGc), (n_cells, c_cells), (n_someK, c_someK), (n_sameSt, c_sameSt)]
def lStorePlays_tm : List Tm := [[((4 : Nat), none, Sh.val (Ty.int IntKind.i64).slice),
    ((5 : Nat), none, Sh.val (((Ty.int IntKind.i64).pair (Ty.int IntKind.i64)).pair (Ty.int IntKind.u16)).slice),
    ((6 : Nat), none, Sh.val (Ty.int IntKind.i64).slice),
    ((15 : Nat), none,
      ((Sh.val (Ty.int IntKind.u64)).cons
          ((Sh.val (Ty.int IntKind.i64)).cons
            ((Sh.val (Ty.int IntKind.i64)).cons
              ((Sh.map (MapK.mapS ((Ty.int IntKind.i64).pair (Ty.int IntKind.i64)) ((Ty.int IntKind.u64).pair (Ty.int IntKind.u16)))).cons
                Sh.unit)))).ptr),
    ((16 : Nat), none,
      ((Sh.val (Ty.int IntKind.u64)).cons
          ((Sh.val (Ty.int IntKind.i64)).cons
            ((Sh.own (((Ty.int IntKind.i64).pair (Ty.int IntKind.i64)).pair ((Ty.int IntKind.u64).pair (Ty.int IntKind.u16)).slice)).cons
              Sh.unit))).ptr),
    ((17 : Nat), none, Sh.val (Ty.int IntKind.i64))]]
def lStorePlays_L1 (rec2 : List Int ×
    List ((Int × Int) × Int) ×
      List Int ×
        (Int × Int × Int × List ((Int × Int) × List (Int × Int)) × Unit) ×
          (Int × Int × List ((Int × Int) × List (Int × Int)) × Unit) × Int × Unit →
  Option
    ((Bool × Unit) ×
      Unit ×
        Unit ×
          Unit ×
            Unit ×
              Unit ×
                Unit ×
                  Unit ×
                    Unit)) : List Int ×
    List ((Int × Int) × Int) ×
      List Int ×
        (Int × Int × Int × List ((Int × Int) × List (Int × Int)) × Unit) ×
          (Int × Int × List ((Int × Int) × List (Int × Int)) × Unit) × Int × Unit →
  Option ((Bool × Unit) × Unit × Unit × Unit × Unit × Unit × Unit × Unit × Unit) := fun (y4, y5, y6, y7, y8, y9, ()) =>
  br (decide (y9 < (↑y6.length : Int)))
  (br (decide ((0 : Int) ≤ y9))
    (br (decide (y9 < (↑y6.length : Int)))
      (bd
        (grd (true && (true && decide ((1000 : Int) < (4611686018427387904 : Int))))
          ((digitS (y6.getD y9.toNat (0 : Int)) (6 : Int) (1000 : Int), ()), (), (), (), ()))
        fun (x10 : (Int × Unit) × Unit × Unit × Unit × Unit) =>
        br (!false)
          (br (decide ((0 : Int) ≤ y9))
            (br (decide (y9 < (↑y6.length : Int)))
              (bd
                (grd (true && decide ((6 : Int) < (4611686018427387904 : Int)))
                  ((y6.getD y9.toNat (0 : Int) % (6 : Int), ()), (), (), ()))
                fun (x11 : (Int × Unit) × Unit × Unit × Unit) =>
                br (x11.1.1 == (0 : Int))
                  (bd
                    (grd (decide (y4.length ≤ (100000 : Nat)))
                      ((List.take ((1 : Nat) + y4.length % (4 : Nat)) (List.drop (x10.1.1 % ((↑y4.length : Int) + (1 : Int))).toNat y4), ()),
                        (), (), ()))
                    fun (x12 : (List Int × Unit) × Unit × Unit × Unit) =>
                    br (!false)
                      (br (x10.1.1.tmod (11 : Int) == (0 : Int))
                        (bd
                          (grd (decide (y5.length < (1000000 : Nat)))
                            (((lentS (((0 : Int), (0 : Int)), (7 : Int)) y5, y5.length), ()), (), ()))
                          fun (x13 : ((List ((Int × Int) × Int) × Nat) × Unit) × Unit × Unit) =>
                          bd
                            (grd
                              (stoOk (y7.1, y7.2.1, y7.2.2.1, y7.2.2.2.1, ()) && lenOk (List.take x13.1.1.2 (List.drop (0 : Nat) x13.1.1.1)))
                              (((instS (y7.1, y7.2.1, y7.2.2.1, y7.2.2.2.1, ()) (List.take x13.1.1.2 (List.drop (0 : Nat) x13.1.1.1))).1.1,
                                  (instS (y7.1, y7.2.1, y7.2.2.1, y7.2.2.2.1, ()) (List.take x13.1.1.2 (List.drop (0 : Nat) x13.1.1.1))).1.2,
                                  ()),
                                (instS (y7.1, y7.2.1, y7.2.2.1, y7.2.2.2.1, ()) (List.take x13.1.1.2 (List.drop (0 : Nat) x13.1.1.1))).2,
                                (), ()))
                            fun (x14 : (Int × Int × Unit) × (Int × Int × Int × List ((Int × Int) × List (Int × Int)) × Unit) × Unit × Unit) =>
                            bd
                              (grd (refOk (y8.1, y8.2.1, y8.2.2.1, ()) && (lenOk y5 && decide (y5.length ≤ (100000 : Nat))))
                                (((rinstS (y8.1, y8.2.1, y8.2.2.1, ()) y5).1.1, (rinstS (y8.1, y8.2.1, y8.2.2.1, ()) y5).1.2,
                                    ()),
                                  (rinstS (y8.1, y8.2.1, y8.2.2.1, ()) y5).2, (), ()))
                              fun (x15 : (Int × Int × Unit) × (Int × Int × List ((Int × Int) × List (Int × Int)) × Unit) × Unit × Unit) =>
                              br (x14.1.1 != x15.1.1)
                                (some
                                  ((false, ()), (), (), (), (), (), (), (),
                                    ()))
                                (br (x14.1.2.1 != x15.1.2.1)
                                  (some
                                    ((false, ()), (), (), (), (), (), (), (),
                                      ()))
                                  (bd
                                    (grd (staysS (((0 : Int), (0 : Int)), (7 : Int)) x13.1.1.1 x13.1.1.2 y5 && decide (y5.length < (1000000 : Nat)))
                                      ((true, ()), x13.1.1.1, (), ()))
                                    fun (x16 : (Bool × Unit) × List ((Int × Int) × Int) × Unit × Unit) =>
                                    br (!x16.1.1)
                                      (some
                                        ((false, ()), (), (), (), (), (), (), (),
                                          ()))
                                      (bd
                                        (grd
                                          (likeB (x14.2.1.1, x14.2.1.2.1, x14.2.1.2.2.1, x14.2.1.2.2.2.1, ())
                                            (x15.2.1.1, x15.2.1.2.1, x15.2.1.2.2.1, ()))
                                          ((true, ()), (x14.2.1.1, x14.2.1.2.1, x14.2.1.2.2.1, x14.2.1.2.2.2.1, ()), (),
                                            (), (), ()))
                                        fun
                                          (x17 :
                                            (Bool × Unit) ×
                                              (Int × Int × Int × List ((Int × Int) × List (Int × Int)) × Unit) × Unit × Unit × Unit × Unit) =>
                                        br (!x17.1.1)
                                          (some
                                            ((false, ()), (), (), (), (), (), (), (),
                                              ()))
                                          (rec2
                                            (y4, y5, y6, (x17.2.1.1, x17.2.1.2.1, x17.2.1.2.2.1, x17.2.1.2.2.2.1, ()),
                                              (x15.2.1.1, x15.2.1.2.1, x15.2.1.2.2.1, ()), IntKind.i64.wrap (y9 + (1 : Int)), ()))))))
                        (bd
                          (grd (decide ((cellsS x12.1.1).length < (1000000 : Nat)))
                            (((lentS (((0 : Int), (0 : Int)), (7 : Int)) (cellsS x12.1.1), (cellsS x12.1.1).length), ()), (),
                              ()))
                          fun (x18 : ((List ((Int × Int) × Int) × Nat) × Unit) × Unit × Unit) =>
                          bd
                            (grd
                              (stoOk (y7.1, y7.2.1, y7.2.2.1, y7.2.2.2.1, ()) && lenOk (List.take x18.1.1.2 (List.drop (0 : Nat) x18.1.1.1)))
                              (((instS (y7.1, y7.2.1, y7.2.2.1, y7.2.2.2.1, ()) (List.take x18.1.1.2 (List.drop (0 : Nat) x18.1.1.1))).1.1,
                                  (instS (y7.1, y7.2.1, y7.2.2.1, y7.2.2.2.1, ()) (List.take x18.1.1.2 (List.drop (0 : Nat) x18.1.1.1))).1.2,
                                  ()),
                                (instS (y7.1, y7.2.1, y7.2.2.1, y7.2.2.2.1, ()) (List.take x18.1.1.2 (List.drop (0 : Nat) x18.1.1.1))).2,
                                (), ()))
                            fun (x19 : (Int × Int × Unit) × (Int × Int × Int × List ((Int × Int) × List (Int × Int)) × Unit) × Unit × Unit) =>
                            bd
                              (grd
                                (refOk (y8.1, y8.2.1, y8.2.2.1, ()) &&
                                  (lenOk (cellsS x12.1.1) && decide ((cellsS x12.1.1).length ≤ (100000 : Nat))))
                                (((rinstS (y8.1, y8.2.1, y8.2.2.1, ()) (cellsS x12.1.1)).1.1,
                                    (rinstS (y8.1, y8.2.1, y8.2.2.1, ()) (cellsS x12.1.1)).1.2, ()),
                                  (rinstS (y8.1, y8.2.1, y8.2.2.1, ()) (cellsS x12.1.1)).2, (), ()))
                              fun (x20 : (Int × Int × Unit) × (Int × Int × List ((Int × Int) × List (Int × Int)) × Unit) × Unit × Unit) =>
                              br (x19.1.1 != x20.1.1)
                                (some
                                  ((false, ()), (), (), (), (), (), (), (),
                                    ()))
                                (br (x19.1.2.1 != x20.1.2.1)
                                  (some
                                    ((false, ()), (), (), (), (), (), (), (),
                                      ()))
                                  (bd
                                    (grd
                                      (staysS (((0 : Int), (0 : Int)), (7 : Int)) x18.1.1.1 x18.1.1.2 (cellsS x12.1.1) &&
                                        decide ((cellsS x12.1.1).length < (1000000 : Nat)))
                                      ((true, ()), x18.1.1.1, (), ()))
                                    fun (x21 : (Bool × Unit) × List ((Int × Int) × Int) × Unit × Unit) =>
                                    br (!x21.1.1)
                                      (some
                                        ((false, ()), (), (), (), (), (), (), (),
                                          ()))
                                      (bd
                                        (grd
                                          (likeB (x19.2.1.1, x19.2.1.2.1, x19.2.1.2.2.1, x19.2.1.2.2.2.1, ())
                                            (x20.2.1.1, x20.2.1.2.1, x20.2.1.2.2.1, ()))
                                          ((true, ()), (x19.2.1.1, x19.2.1.2.1, x19.2.1.2.2.1, x19.2.1.2.2.2.1, ()), (),
                                            (), (), ()))
                                        fun
                                          (x22 :
                                            (Bool × Unit) ×
                                              (Int × Int × Int × List ((Int × Int) × List (Int × Int)) × Unit) × Unit × Unit × Unit × Unit) =>
                                        br (!x22.1.1)
                                          (some
                                            ((false, ()), (), (), (), (), (), (), (),
                                              ()))
                                          (rec2
                                            (y4, y5, y6, (x22.2.1.1, x22.2.1.2.1, x22.2.1.2.2.1, x22.2.1.2.2.2.1, ()),
                                              (x20.2.1.1, x20.2.1.2.1, x20.2.1.2.2.1, ()), IntKind.i64.wrap (y9 + (1 : Int)),
                                              ())))))))
                      none)
                  (br (x11.1.1 == (1 : Int))
                    (bd
                      (grd (decide (y4.length ≤ (100000 : Nat)))
                        ((List.take ((1 : Nat) + y4.length % (4 : Nat)) (List.drop (x10.1.1 % ((↑y4.length : Int) + (1 : Int))).toNat y4),
                            ()),
                          (), (), ()))
                      fun (x23 : (List Int × Unit) × Unit × Unit × Unit) =>
                      br (!false)
                        (br (x10.1.1.tmod (11 : Int) == (0 : Int))
                          (bd
                            (grd (decide (y5.length < (1000000 : Nat)))
                              (((lentS (((0 : Int), (0 : Int)), (7 : Int)) y5, y5.length), ()), (), ()))
                            fun (x24 : ((List ((Int × Int) × Int) × Nat) × Unit) × Unit × Unit) =>
                            bd
                              (grd
                                (stoOk (y7.1, y7.2.1, y7.2.2.1, y7.2.2.2.1, ()) &&
                                  lenOk (List.take x24.1.1.2 (List.drop (0 : Nat) x24.1.1.1)))
                                (((instS (y7.1, y7.2.1, y7.2.2.1, y7.2.2.2.1, ()) (List.take x24.1.1.2 (List.drop (0 : Nat) x24.1.1.1))).1.1,
                                    (instS (y7.1, y7.2.1, y7.2.2.1, y7.2.2.2.1, ())
                                          (List.take x24.1.1.2 (List.drop (0 : Nat) x24.1.1.1))).1.2,
                                    ()),
                                  (instS (y7.1, y7.2.1, y7.2.2.1, y7.2.2.2.1, ()) (List.take x24.1.1.2 (List.drop (0 : Nat) x24.1.1.1))).2,
                                  (), ()))
                              fun (x25 : (Int × Int × Unit) × (Int × Int × Int × List ((Int × Int) × List (Int × Int)) × Unit) × Unit × Unit) =>
                              bd
                                (grd (refOk (y8.1, y8.2.1, y8.2.2.1, ()) && (lenOk y5 && decide (y5.length ≤ (100000 : Nat))))
                                  (((rinstS (y8.1, y8.2.1, y8.2.2.1, ()) y5).1.1, (rinstS (y8.1, y8.2.1, y8.2.2.1, ()) y5).1.2,
                                      ()),
                                    (rinstS (y8.1, y8.2.1, y8.2.2.1, ()) y5).2, (), ()))
                                fun (x26 : (Int × Int × Unit) × (Int × Int × List ((Int × Int) × List (Int × Int)) × Unit) × Unit × Unit) =>
                                br (x25.1.1 != x26.1.1)
                                  (some
                                    ((false, ()), (), (), (), (), (), (), (),
                                      ()))
                                  (br (x25.1.2.1 != x26.1.2.1)
                                    (some
                                      ((false, ()), (), (), (), (), (), (), (),
                                        ()))
                                    (bd
                                      (grd (staysS (((0 : Int), (0 : Int)), (7 : Int)) x24.1.1.1 x24.1.1.2 y5 && decide (y5.length < (1000000 : Nat)))
                                        ((true, ()), x24.1.1.1, (), ()))
                                      fun (x27 : (Bool × Unit) × List ((Int × Int) × Int) × Unit × Unit) =>
                                      br (!x27.1.1)
                                        (some
                                          ((false, ()), (), (), (), (), (), (), (),
                                            ()))
                                        (bd
                                          (grd
                                            (likeB (x25.2.1.1, x25.2.1.2.1, x25.2.1.2.2.1, x25.2.1.2.2.2.1, ())
                                              (x26.2.1.1, x26.2.1.2.1, x26.2.1.2.2.1, ()))
                                            ((true, ()), (x25.2.1.1, x25.2.1.2.1, x25.2.1.2.2.1, x25.2.1.2.2.2.1, ()), (),
                                              (), (), ()))
                                          fun
                                            (x28 :
                                              (Bool × Unit) ×
                                                (Int × Int × Int × List ((Int × Int) × List (Int × Int)) × Unit) × Unit × Unit × Unit × Unit) =>
                                          br (!x28.1.1)
                                            (some
                                              ((false, ()), (), (), (), (), (), (),
                                                (), ()))
                                            (rec2
                                              (y4, y5, y6, (x28.2.1.1, x28.2.1.2.1, x28.2.1.2.2.1, x28.2.1.2.2.2.1, ()),
                                                (x26.2.1.1, x26.2.1.2.1, x26.2.1.2.2.1, ()), IntKind.i64.wrap (y9 + (1 : Int)),
                                                ()))))))
                          (bd
                            (grd (decide ((cellsS x23.1.1).length < (1000000 : Nat)))
                              (((lentS (((0 : Int), (0 : Int)), (7 : Int)) (cellsS x23.1.1), (cellsS x23.1.1).length), ()), (),
                                ()))
                            fun (x29 : ((List ((Int × Int) × Int) × Nat) × Unit) × Unit × Unit) =>
                            bd
                              (grd
                                (stoOk (y7.1, y7.2.1, y7.2.2.1, y7.2.2.2.1, ()) &&
                                  lenOk (List.take x29.1.1.2 (List.drop (0 : Nat) x29.1.1.1)))
                                (((instS (y7.1, y7.2.1, y7.2.2.1, y7.2.2.2.1, ()) (List.take x29.1.1.2 (List.drop (0 : Nat) x29.1.1.1))).1.1,
                                    (instS (y7.1, y7.2.1, y7.2.2.1, y7.2.2.2.1, ())
                                          (List.take x29.1.1.2 (List.drop (0 : Nat) x29.1.1.1))).1.2,
                                    ()),
                                  (instS (y7.1, y7.2.1, y7.2.2.1, y7.2.2.2.1, ()) (List.take x29.1.1.2 (List.drop (0 : Nat) x29.1.1.1))).2,
                                  (), ()))
                              fun (x30 : (Int × Int × Unit) × (Int × Int × Int × List ((Int × Int) × List (Int × Int)) × Unit) × Unit × Unit) =>
                              bd
                                (grd
                                  (refOk (y8.1, y8.2.1, y8.2.2.1, ()) &&
                                    (lenOk (cellsS x23.1.1) && decide ((cellsS x23.1.1).length ≤ (100000 : Nat))))
                                  (((rinstS (y8.1, y8.2.1, y8.2.2.1, ()) (cellsS x23.1.1)).1.1,
                                      (rinstS (y8.1, y8.2.1, y8.2.2.1, ()) (cellsS x23.1.1)).1.2, ()),
                                    (rinstS (y8.1, y8.2.1, y8.2.2.1, ()) (cellsS x23.1.1)).2, (), ()))
                                fun (x31 : (Int × Int × Unit) × (Int × Int × List ((Int × Int) × List (Int × Int)) × Unit) × Unit × Unit) =>
                                br (x30.1.1 != x31.1.1)
                                  (some
                                    ((false, ()), (), (), (), (), (), (), (),
                                      ()))
                                  (br (x30.1.2.1 != x31.1.2.1)
                                    (some
                                      ((false, ()), (), (), (), (), (), (), (),
                                        ()))
                                    (bd
                                      (grd
                                        (staysS (((0 : Int), (0 : Int)), (7 : Int)) x29.1.1.1 x29.1.1.2 (cellsS x23.1.1) &&
                                          decide ((cellsS x23.1.1).length < (1000000 : Nat)))
                                        ((true, ()), x29.1.1.1, (), ()))
                                      fun (x32 : (Bool × Unit) × List ((Int × Int) × Int) × Unit × Unit) =>
                                      br (!x32.1.1)
                                        (some
                                          ((false, ()), (), (), (), (), (), (), (),
                                            ()))
                                        (bd
                                          (grd
                                            (likeB (x30.2.1.1, x30.2.1.2.1, x30.2.1.2.2.1, x30.2.1.2.2.2.1, ())
                                              (x31.2.1.1, x31.2.1.2.1, x31.2.1.2.2.1, ()))
                                            ((true, ()), (x30.2.1.1, x30.2.1.2.1, x30.2.1.2.2.1, x30.2.1.2.2.2.1, ()), (),
                                              (), (), ()))
                                          fun
                                            (x33 :
                                              (Bool × Unit) ×
                                                (Int × Int × Int × List ((Int × Int) × List (Int × Int)) × Unit) × Unit × Unit × Unit × Unit) =>
                                          br (!x33.1.1)
                                            (some
                                              ((false, ()), (), (), (), (), (), (),
                                                (), ()))
                                            (rec2
                                              (y4, y5, y6, (x33.2.1.1, x33.2.1.2.1, x33.2.1.2.2.1, x33.2.1.2.2.2.1, ()),
                                                (x31.2.1.1, x31.2.1.2.1, x31.2.1.2.2.1, ()), IntKind.i64.wrap (y9 + (1 : Int)),
                                                ())))))))
                        none)
                    (br (x11.1.1 == (2 : Int))
                      (bd
                        (grd (decide (y4.length ≤ (100000 : Nat)))
                          ((List.take ((1 : Nat) + y4.length % (4 : Nat)) (List.drop (x10.1.1 % ((↑y4.length : Int) + (1 : Int))).toNat y4),
                              ()),
                            (), (), ()))
                        fun (x34 : (List Int × Unit) × Unit × Unit × Unit) =>
                        br (!false)
                          (br (x10.1.1.tmod (11 : Int) == (0 : Int))
                            (bd
                              (grd (decide (y5.length < (1000000 : Nat)))
                                (((lentS (((0 : Int), (0 : Int)), (7 : Int)) y5, y5.length), ()), (), ()))
                              fun (x35 : ((List ((Int × Int) × Int) × Nat) × Unit) × Unit × Unit) =>
                              bd
                                (grd
                                  (stoOk (y7.1, y7.2.1, y7.2.2.1, y7.2.2.2.1, ()) &&
                                    lenOk (List.take x35.1.1.2 (List.drop (0 : Nat) x35.1.1.1)))
                                  (((instS (y7.1, y7.2.1, y7.2.2.1, y7.2.2.2.1, ())
                                            (List.take x35.1.1.2 (List.drop (0 : Nat) x35.1.1.1))).1.1,
                                      (instS (y7.1, y7.2.1, y7.2.2.1, y7.2.2.2.1, ())
                                            (List.take x35.1.1.2 (List.drop (0 : Nat) x35.1.1.1))).1.2,
                                      ()),
                                    (instS (y7.1, y7.2.1, y7.2.2.1, y7.2.2.2.1, ()) (List.take x35.1.1.2 (List.drop (0 : Nat) x35.1.1.1))).2,
                                    (), ()))
                                fun (x36 : (Int × Int × Unit) × (Int × Int × Int × List ((Int × Int) × List (Int × Int)) × Unit) × Unit × Unit) =>
                                bd
                                  (grd (refOk (y8.1, y8.2.1, y8.2.2.1, ()) && (lenOk y5 && decide (y5.length ≤ (100000 : Nat))))
                                    (((rinstS (y8.1, y8.2.1, y8.2.2.1, ()) y5).1.1, (rinstS (y8.1, y8.2.1, y8.2.2.1, ()) y5).1.2,
                                        ()),
                                      (rinstS (y8.1, y8.2.1, y8.2.2.1, ()) y5).2, (), ()))
                                  fun (x37 : (Int × Int × Unit) × (Int × Int × List ((Int × Int) × List (Int × Int)) × Unit) × Unit × Unit) =>
                                  br (x36.1.1 != x37.1.1)
                                    (some
                                      ((false, ()), (), (), (), (), (), (), (),
                                        ()))
                                    (br (x36.1.2.1 != x37.1.2.1)
                                      (some
                                        ((false, ()), (), (), (), (), (), (), (),
                                          ()))
                                      (bd
                                        (grd
                                          (staysS (((0 : Int), (0 : Int)), (7 : Int)) x35.1.1.1 x35.1.1.2 y5 && decide (y5.length < (1000000 : Nat)))
                                          ((true, ()), x35.1.1.1, (), ()))
                                        fun (x38 : (Bool × Unit) × List ((Int × Int) × Int) × Unit × Unit) =>
                                        br (!x38.1.1)
                                          (some
                                            ((false, ()), (), (), (), (), (), (), (),
                                              ()))
                                          (bd
                                            (grd
                                              (likeB (x36.2.1.1, x36.2.1.2.1, x36.2.1.2.2.1, x36.2.1.2.2.2.1, ())
                                                (x37.2.1.1, x37.2.1.2.1, x37.2.1.2.2.1, ()))
                                              ((true, ()), (x36.2.1.1, x36.2.1.2.1, x36.2.1.2.2.1, x36.2.1.2.2.2.1, ()), (),
                                                (), (), ()))
                                            fun
                                              (x39 :
                                                (Bool × Unit) ×
                                                  (Int × Int × Int × List ((Int × Int) × List (Int × Int)) × Unit) ×
                                                    Unit × Unit × Unit × Unit) =>
                                            br (!x39.1.1)
                                              (some
                                                ((false, ()), (), (), (), (), (), (),
                                                  (), ()))
                                              (rec2
                                                (y4, y5, y6, (x39.2.1.1, x39.2.1.2.1, x39.2.1.2.2.1, x39.2.1.2.2.2.1, ()),
                                                  (x37.2.1.1, x37.2.1.2.1, x37.2.1.2.2.1, ()), IntKind.i64.wrap (y9 + (1 : Int)),
                                                  ()))))))
                            (bd
                              (grd (decide ((cellsS x34.1.1).length < (1000000 : Nat)))
                                (((lentS (((0 : Int), (0 : Int)), (7 : Int)) (cellsS x34.1.1), (cellsS x34.1.1).length), ()), (),
                                  ()))
                              fun (x40 : ((List ((Int × Int) × Int) × Nat) × Unit) × Unit × Unit) =>
                              bd
                                (grd
                                  (stoOk (y7.1, y7.2.1, y7.2.2.1, y7.2.2.2.1, ()) &&
                                    lenOk (List.take x40.1.1.2 (List.drop (0 : Nat) x40.1.1.1)))
                                  (((instS (y7.1, y7.2.1, y7.2.2.1, y7.2.2.2.1, ())
                                            (List.take x40.1.1.2 (List.drop (0 : Nat) x40.1.1.1))).1.1,
                                      (instS (y7.1, y7.2.1, y7.2.2.1, y7.2.2.2.1, ())
                                            (List.take x40.1.1.2 (List.drop (0 : Nat) x40.1.1.1))).1.2,
                                      ()),
                                    (instS (y7.1, y7.2.1, y7.2.2.1, y7.2.2.2.1, ()) (List.take x40.1.1.2 (List.drop (0 : Nat) x40.1.1.1))).2,
                                    (), ()))
                                fun (x41 : (Int × Int × Unit) × (Int × Int × Int × List ((Int × Int) × List (Int × Int)) × Unit) × Unit × Unit) =>
                                bd
                                  (grd
                                    (refOk (y8.1, y8.2.1, y8.2.2.1, ()) &&
                                      (lenOk (cellsS x34.1.1) && decide ((cellsS x34.1.1).length ≤ (100000 : Nat))))
                                    (((rinstS (y8.1, y8.2.1, y8.2.2.1, ()) (cellsS x34.1.1)).1.1,
                                        (rinstS (y8.1, y8.2.1, y8.2.2.1, ()) (cellsS x34.1.1)).1.2, ()),
                                      (rinstS (y8.1, y8.2.1, y8.2.2.1, ()) (cellsS x34.1.1)).2, (), ()))
                                  fun (x42 : (Int × Int × Unit) × (Int × Int × List ((Int × Int) × List (Int × Int)) × Unit) × Unit × Unit) =>
                                  br (x41.1.1 != x42.1.1)
                                    (some
                                      ((false, ()), (), (), (), (), (), (), (),
                                        ()))
                                    (br (x41.1.2.1 != x42.1.2.1)
                                      (some
                                        ((false, ()), (), (), (), (), (), (), (),
                                          ()))
                                      (bd
                                        (grd
                                          (staysS (((0 : Int), (0 : Int)), (7 : Int)) x40.1.1.1 x40.1.1.2 (cellsS x34.1.1) &&
                                            decide ((cellsS x34.1.1).length < (1000000 : Nat)))
                                          ((true, ()), x40.1.1.1, (), ()))
                                        fun (x43 : (Bool × Unit) × List ((Int × Int) × Int) × Unit × Unit) =>
                                        br (!x43.1.1)
                                          (some
                                            ((false, ()), (), (), (), (), (), (), (),
                                              ()))
                                          (bd
                                            (grd
                                              (likeB (x41.2.1.1, x41.2.1.2.1, x41.2.1.2.2.1, x41.2.1.2.2.2.1, ())
                                                (x42.2.1.1, x42.2.1.2.1, x42.2.1.2.2.1, ()))
                                              ((true, ()), (x41.2.1.1, x41.2.1.2.1, x41.2.1.2.2.1, x41.2.1.2.2.2.1, ()), (),
                                                (), (), ()))
                                            fun
                                              (x44 :
                                                (Bool × Unit) ×
                                                  (Int × Int × Int × List ((Int × Int) × List (Int × Int)) × Unit) ×
                                                    Unit × Unit × Unit × Unit) =>
                                            br (!x44.1.1)
                                              (some
                                                ((false, ()), (), (), (), (), (), (),
                                                  (), ()))
                                              (rec2
                                                (y4, y5, y6, (x44.2.1.1, x44.2.1.2.1, x44.2.1.2.2.1, x44.2.1.2.2.2.1, ()),
                                                  (x42.2.1.1, x42.2.1.2.1, x42.2.1.2.2.1, ()), IntKind.i64.wrap (y9 + (1 : Int)),
                                                  ())))))))
                          none)
                      (br (x11.1.1 == (3 : Int))
                        (bd
                          (grd (decide (y4.length ≤ (100000 : Nat)))
                            ((List.take ((1 : Nat) + y4.length % (4 : Nat)) (List.drop (x10.1.1 % ((↑y4.length : Int) + (1 : Int))).toNat y4),
                                ()),
                              (), (), ()))
                          fun (x45 : (List Int × Unit) × Unit × Unit × Unit) =>
                          br (!false)
                            (br (x10.1.1.tmod (11 : Int) == (0 : Int))
                              (bd
                                (grd (decide (y5.length < (1000000 : Nat)))
                                  (((lentS (((0 : Int), (0 : Int)), (7 : Int)) y5, y5.length), ()), (), ()))
                                fun (x46 : ((List ((Int × Int) × Int) × Nat) × Unit) × Unit × Unit) =>
                                bd
                                  (grd
                                    (stoOk (y7.1, y7.2.1, y7.2.2.1, y7.2.2.2.1, ()) &&
                                      lenOk (List.take x46.1.1.2 (List.drop (0 : Nat) x46.1.1.1)))
                                    (((instS (y7.1, y7.2.1, y7.2.2.1, y7.2.2.2.1, ())
                                              (List.take x46.1.1.2 (List.drop (0 : Nat) x46.1.1.1))).1.1,
                                        (instS (y7.1, y7.2.1, y7.2.2.1, y7.2.2.2.1, ())
                                              (List.take x46.1.1.2 (List.drop (0 : Nat) x46.1.1.1))).1.2,
                                        ()),
                                      (instS (y7.1, y7.2.1, y7.2.2.1, y7.2.2.2.1, ())
                                          (List.take x46.1.1.2 (List.drop (0 : Nat) x46.1.1.1))).2,
                                      (), ()))
                                  fun
                                    (x47 : (Int × Int × Unit) × (Int × Int × Int × List ((Int × Int) × List (Int × Int)) × Unit) × Unit × Unit) =>
                                  bd
                                    (grd (refOk (y8.1, y8.2.1, y8.2.2.1, ()) && (lenOk y5 && decide (y5.length ≤ (100000 : Nat))))
                                      (((rinstS (y8.1, y8.2.1, y8.2.2.1, ()) y5).1.1, (rinstS (y8.1, y8.2.1, y8.2.2.1, ()) y5).1.2,
                                          ()),
                                        (rinstS (y8.1, y8.2.1, y8.2.2.1, ()) y5).2, (), ()))
                                    fun (x48 : (Int × Int × Unit) × (Int × Int × List ((Int × Int) × List (Int × Int)) × Unit) × Unit × Unit) =>
                                    br (x47.1.1 != x48.1.1)
                                      (some
                                        ((false, ()), (), (), (), (), (), (), (),
                                          ()))
                                      (br (x47.1.2.1 != x48.1.2.1)
                                        (some
                                          ((false, ()), (), (), (), (), (), (), (),
                                            ()))
                                        (bd
                                          (grd
                                            (staysS (((0 : Int), (0 : Int)), (7 : Int)) x46.1.1.1 x46.1.1.2 y5 &&
                                              decide (y5.length < (1000000 : Nat)))
                                            ((true, ()), x46.1.1.1, (), ()))
                                          fun (x49 : (Bool × Unit) × List ((Int × Int) × Int) × Unit × Unit) =>
                                          br (!x49.1.1)
                                            (some
                                              ((false, ()), (), (), (), (), (), (),
                                                (), ()))
                                            (bd
                                              (grd
                                                (likeB (x47.2.1.1, x47.2.1.2.1, x47.2.1.2.2.1, x47.2.1.2.2.2.1, ())
                                                  (x48.2.1.1, x48.2.1.2.1, x48.2.1.2.2.1, ()))
                                                ((true, ()), (x47.2.1.1, x47.2.1.2.1, x47.2.1.2.2.1, x47.2.1.2.2.2.1, ()), (),
                                                  (), (), ()))
                                              fun
                                                (x50 :
                                                  (Bool × Unit) ×
                                                    (Int × Int × Int × List ((Int × Int) × List (Int × Int)) × Unit) ×
                                                      Unit × Unit × Unit × Unit) =>
                                              br (!x50.1.1)
                                                (some
                                                  ((false, ()), (), (), (), (), (), (),
                                                    (), ()))
                                                (rec2
                                                  (y4, y5, y6, (x50.2.1.1, x50.2.1.2.1, x50.2.1.2.2.1, x50.2.1.2.2.2.1, ()),
                                                    (x48.2.1.1, x48.2.1.2.1, x48.2.1.2.2.1, ()), IntKind.i64.wrap (y9 + (1 : Int)),
                                                    ()))))))
                              (bd
                                (grd (decide ((cellsS x45.1.1).length < (1000000 : Nat)))
                                  (((lentS (((0 : Int), (0 : Int)), (7 : Int)) (cellsS x45.1.1), (cellsS x45.1.1).length), ()), (),
                                    ()))
                                fun (x51 : ((List ((Int × Int) × Int) × Nat) × Unit) × Unit × Unit) =>
                                bd
                                  (grd
                                    (stoOk (y7.1, y7.2.1, y7.2.2.1, y7.2.2.2.1, ()) &&
                                      lenOk (List.take x51.1.1.2 (List.drop (0 : Nat) x51.1.1.1)))
                                    (((instS (y7.1, y7.2.1, y7.2.2.1, y7.2.2.2.1, ())
                                              (List.take x51.1.1.2 (List.drop (0 : Nat) x51.1.1.1))).1.1,
                                        (instS (y7.1, y7.2.1, y7.2.2.1, y7.2.2.2.1, ())
                                              (List.take x51.1.1.2 (List.drop (0 : Nat) x51.1.1.1))).1.2,
                                        ()),
                                      (instS (y7.1, y7.2.1, y7.2.2.1, y7.2.2.2.1, ())
                                          (List.take x51.1.1.2 (List.drop (0 : Nat) x51.1.1.1))).2,
                                      (), ()))
                                  fun
                                    (x52 : (Int × Int × Unit) × (Int × Int × Int × List ((Int × Int) × List (Int × Int)) × Unit) × Unit × Unit) =>
                                  bd
                                    (grd
                                      (refOk (y8.1, y8.2.1, y8.2.2.1, ()) &&
                                        (lenOk (cellsS x45.1.1) && decide ((cellsS x45.1.1).length ≤ (100000 : Nat))))
                                      (((rinstS (y8.1, y8.2.1, y8.2.2.1, ()) (cellsS x45.1.1)).1.1,
                                          (rinstS (y8.1, y8.2.1, y8.2.2.1, ()) (cellsS x45.1.1)).1.2, ()),
                                        (rinstS (y8.1, y8.2.1, y8.2.2.1, ()) (cellsS x45.1.1)).2, (), ()))
                                    fun (x53 : (Int × Int × Unit) × (Int × Int × List ((Int × Int) × List (Int × Int)) × Unit) × Unit × Unit) =>
                                    br (x52.1.1 != x53.1.1)
                                      (some
                                        ((false, ()), (), (), (), (), (), (), (),
                                          ()))
                                      (br (x52.1.2.1 != x53.1.2.1)
                                        (some
                                          ((false, ()), (), (), (), (), (), (), (),
                                            ()))
                                        (bd
                                          (grd
                                            (staysS (((0 : Int), (0 : Int)), (7 : Int)) x51.1.1.1 x51.1.1.2 (cellsS x45.1.1) &&
                                              decide ((cellsS x45.1.1).length < (1000000 : Nat)))
                                            ((true, ()), x51.1.1.1, (), ()))
                                          fun (x54 : (Bool × Unit) × List ((Int × Int) × Int) × Unit × Unit) =>
                                          br (!x54.1.1)
                                            (some
                                              ((false, ()), (), (), (), (), (), (),
                                                (), ()))
                                            (bd
                                              (grd
                                                (likeB (x52.2.1.1, x52.2.1.2.1, x52.2.1.2.2.1, x52.2.1.2.2.2.1, ())
                                                  (x53.2.1.1, x53.2.1.2.1, x53.2.1.2.2.1, ()))
                                                ((true, ()), (x52.2.1.1, x52.2.1.2.1, x52.2.1.2.2.1, x52.2.1.2.2.2.1, ()), (),
                                                  (), (), ()))
                                              fun
                                                (x55 :
                                                  (Bool × Unit) ×
                                                    (Int × Int × Int × List ((Int × Int) × List (Int × Int)) × Unit) ×
                                                      Unit × Unit × Unit × Unit) =>
                                              br (!x55.1.1)
                                                (some
                                                  ((false, ()), (), (), (), (), (), (),
                                                    (), ()))
                                                (rec2
                                                  (y4, y5, y6, (x55.2.1.1, x55.2.1.2.1, x55.2.1.2.2.1, x55.2.1.2.2.2.1, ()),
                                                    (x53.2.1.1, x53.2.1.2.1, x53.2.1.2.2.1, ()), IntKind.i64.wrap (y9 + (1 : Int)),
                                                    ())))))))
                            none)
                        (br (x11.1.1 == (4 : Int))
                          (bd
                            (grd (stoOk (y7.1, y7.2.1, y7.2.2.1, y7.2.2.2.1, ()) && nodM y7.2.2.2.1)
                              ((goneM (IntKind.u64.wrap (y8.1 - IntKind.u64.wrap (x10.1.1.tmod (7 : Int)))) y7.2.2.2.1, ()),
                                gcS (y7.1, y7.2.1, y7.2.2.1, y7.2.2.2.1, ())
                                  (IntKind.u64.wrap (y8.1 - IntKind.u64.wrap (x10.1.1.tmod (7 : Int)))),
                                (), ()))
                            fun (x56 : (Int × Unit) × (Int × Int × Int × List ((Int × Int) × List (Int × Int)) × Unit) × Unit × Unit) =>
                            bd
                              (grd (refOk (y8.1, y8.2.1, y8.2.2.1, ()))
                                ((goneM (IntKind.u64.wrap (y8.1 - IntKind.u64.wrap (x10.1.1.tmod (7 : Int)))) y8.2.2.1, ()),
                                  rgcS (y8.1, y8.2.1, y8.2.2.1, ()) (IntKind.u64.wrap (y8.1 - IntKind.u64.wrap (x10.1.1.tmod (7 : Int)))),
                                  (), ()))
                              fun (x57 : (Int × Unit) × (Int × Int × List ((Int × Int) × List (Int × Int)) × Unit) × Unit × Unit) =>
                              br (x56.1.1 != x57.1.1)
                                (some
                                  ((false, ()), (), (), (), (), (), (), (),
                                    ()))
                                (bd
                                  (grd
                                    (likeB (x56.2.1.1, x56.2.1.2.1, x56.2.1.2.2.1, x56.2.1.2.2.2.1, ())
                                      (x57.2.1.1, x57.2.1.2.1, x57.2.1.2.2.1, ()))
                                    ((true, ()), (x56.2.1.1, x56.2.1.2.1, x56.2.1.2.2.1, x56.2.1.2.2.2.1, ()), (), (),
                                      (), ()))
                                  fun
                                    (x58 :
                                      (Bool × Unit) ×
                                        (Int × Int × Int × List ((Int × Int) × List (Int × Int)) × Unit) × Unit × Unit × Unit × Unit) =>
                                  br (!x58.1.1)
                                    (some
                                      ((false, ()), (), (), (), (), (), (), (),
                                        ()))
                                    (rec2
                                      (y4, y5, y6, (x58.2.1.1, x58.2.1.2.1, x58.2.1.2.2.1, x58.2.1.2.2.2.1, ()),
                                        (x57.2.1.1, x57.2.1.2.1, x57.2.1.2.2.1, ()), IntKind.i64.wrap (y9 + (1 : Int)), ()))))
                          (br (x11.1.1 == (5 : Int))
                            (bd
                              (grd (stoOk (y7.1, y7.2.1, y7.2.2.1, y7.2.2.2.1, ()) && nodM y7.2.2.2.1)
                                ((goneM (IntKind.u64.wrap (y8.1 - IntKind.u64.wrap (x10.1.1.tmod (7 : Int)))) y7.2.2.2.1, ()),
                                  gcS (y7.1, y7.2.1, y7.2.2.1, y7.2.2.2.1, ())
                                    (IntKind.u64.wrap (y8.1 - IntKind.u64.wrap (x10.1.1.tmod (7 : Int)))),
                                  (), ()))
                              fun (x59 : (Int × Unit) × (Int × Int × Int × List ((Int × Int) × List (Int × Int)) × Unit) × Unit × Unit) =>
                              bd
                                (grd (refOk (y8.1, y8.2.1, y8.2.2.1, ()))
                                  ((goneM (IntKind.u64.wrap (y8.1 - IntKind.u64.wrap (x10.1.1.tmod (7 : Int)))) y8.2.2.1, ()),
                                    rgcS (y8.1, y8.2.1, y8.2.2.1, ()) (IntKind.u64.wrap (y8.1 - IntKind.u64.wrap (x10.1.1.tmod (7 : Int)))),
                                    (), ()))
                                fun (x60 : (Int × Unit) × (Int × Int × List ((Int × Int) × List (Int × Int)) × Unit) × Unit × Unit) =>
                                br (x59.1.1 != x60.1.1)
                                  (some
                                    ((false, ()), (), (), (), (), (), (), (),
                                      ()))
                                  (bd
                                    (grd
                                      (likeB (x59.2.1.1, x59.2.1.2.1, x59.2.1.2.2.1, x59.2.1.2.2.2.1, ())
                                        (x60.2.1.1, x60.2.1.2.1, x60.2.1.2.2.1, ()))
                                      ((true, ()), (x59.2.1.1, x59.2.1.2.1, x59.2.1.2.2.1, x59.2.1.2.2.2.1, ()), (),
                                        (), (), ()))
                                    fun
                                      (x61 :
                                        (Bool × Unit) ×
                                          (Int × Int × Int × List ((Int × Int) × List (Int × Int)) × Unit) × Unit × Unit × Unit × Unit) =>
                                    br (!x61.1.1)
                                      (some
                                        ((false, ()), (), (), (), (), (), (), (),
                                          ()))
                                      (rec2
                                        (y4, y5, y6, (x61.2.1.1, x61.2.1.2.1, x61.2.1.2.2.1, x61.2.1.2.2.2.1, ()),
                                          (x60.2.1.1, x60.2.1.2.1, x60.2.1.2.2.1, ()), IntKind.i64.wrap (y9 + (1 : Int)), ()))))
                            (bd
                              (grd (likeB (y7.1, y7.2.1, y7.2.2.1, y7.2.2.2.1, ()) (y8.1, y8.2.1, y8.2.2.1, ()))
                                ((true, ()), (y7.1, y7.2.1, y7.2.2.1, y7.2.2.2.1, ()), (), (), (),
                                  ()))
                              fun
                                (x62 :
                                  (Bool × Unit) ×
                                    (Int × Int × Int × List ((Int × Int) × List (Int × Int)) × Unit) × Unit × Unit × Unit × Unit) =>
                              br (!x62.1.1)
                                (some
                                  ((false, ()), (), (), (), (), (), (), (),
                                    ()))
                                (rec2
                                  (y4, y5, y6, (x62.2.1.1, x62.2.1.2.1, x62.2.1.2.2.1, x62.2.1.2.2.2.1, ()),
                                    (y8.1, y8.2.1, y8.2.2.1, ()), IntKind.i64.wrap (y9 + (1 : Int)), ())))))))))
              none)
            none)
          none)
      none)
    none)
  (bd
    (grd (likeB (y7.1, y7.2.1, y7.2.2.1, y7.2.2.2.1, ()) (y8.1, y8.2.1, y8.2.2.1, ()))
      ((true, ()), (y7.1, y7.2.1, y7.2.2.1, y7.2.2.2.1, ()), (), (), (), ()))
    fun (x63 : (Bool × Unit) × (Int × Int × Int × List ((Int × Int) × List (Int × Int)) × Unit) × Unit × Unit × Unit × Unit) =>
    some ((x63.1.1, ()), (), (), (), (), (), (), (), ()))
def lStorePlays_L2 (rec64 : List Int ×
    List ((Int × Int) × Int) ×
      List Int ×
        (Int × Int × Int × List ((Int × Int) × List (Int × Int)) × Unit) ×
          (Int × Int × List ((Int × Int) × List (Int × Int)) × Unit) × Int × Unit →
  Option
    ((Bool × Unit) ×
      Unit ×
        Unit ×
          Unit ×
            Unit ×
              Unit ×
                Unit ×
                  Unit ×
                    Unit)) : List Int ×
    List ((Int × Int) × Int) ×
      List Int ×
        (Int × Int × Int × List ((Int × Int) × List (Int × Int)) × Unit) ×
          (Int × Int × List ((Int × Int) × List (Int × Int)) × Unit) × Int × Unit →
  Option ((Bool × Unit) × Unit × Unit × Unit × Unit × Unit × Unit × Unit × Unit) := fun (y66, y67, y68, y69, y70, y71, ()) =>
  br (decide (y71 < (↑y68.length : Int)))
  (br (decide ((0 : Int) ≤ y71))
    (br (decide (y71 < (↑y68.length : Int)))
      (bd
        (grd (true && (true && decide ((1000 : Int) < (4611686018427387904 : Int))))
          ((digitS (y68.getD y71.toNat (0 : Int)) (6 : Int) (1000 : Int), ()), (), (), (), ()))
        fun (x72 : (Int × Unit) × Unit × Unit × Unit × Unit) =>
        br (!false)
          (br (decide ((0 : Int) ≤ y71))
            (br (decide (y71 < (↑y68.length : Int)))
              (bd
                (grd (true && decide ((6 : Int) < (4611686018427387904 : Int)))
                  ((y68.getD y71.toNat (0 : Int) % (6 : Int), ()), (), (), ()))
                fun (x73 : (Int × Unit) × Unit × Unit × Unit) =>
                br (x73.1.1 == (0 : Int))
                  (bd
                    (grd (decide (y66.length ≤ (100000 : Nat)))
                      ((List.take ((1 : Nat) + y66.length % (4 : Nat)) (List.drop (x72.1.1 % ((↑y66.length : Int) + (1 : Int))).toNat y66),
                          ()),
                        (), (), ()))
                    fun (x74 : (List Int × Unit) × Unit × Unit × Unit) =>
                    br (!false)
                      (br (x72.1.1.tmod (11 : Int) == (0 : Int))
                        (bd
                          (grd (decide (y67.length < (1000000 : Nat)))
                            (((lentS (((0 : Int), (0 : Int)), (7 : Int)) y67, y67.length), ()), (), ()))
                          fun (x75 : ((List ((Int × Int) × Int) × Nat) × Unit) × Unit × Unit) =>
                          bd
                            (grd
                              (stoOk (y69.1, y69.2.1, y69.2.2.1, y69.2.2.2.1, ()) &&
                                lenOk (List.take x75.1.1.2 (List.drop (0 : Nat) x75.1.1.1)))
                              (((instS (y69.1, y69.2.1, y69.2.2.1, y69.2.2.2.1, ())
                                        (List.take x75.1.1.2 (List.drop (0 : Nat) x75.1.1.1))).1.1,
                                  (instS (y69.1, y69.2.1, y69.2.2.1, y69.2.2.2.1, ())
                                        (List.take x75.1.1.2 (List.drop (0 : Nat) x75.1.1.1))).1.2,
                                  ()),
                                (instS (y69.1, y69.2.1, y69.2.2.1, y69.2.2.2.1, ()) (List.take x75.1.1.2 (List.drop (0 : Nat) x75.1.1.1))).2,
                                (), ()))
                            fun (x76 : (Int × Int × Unit) × (Int × Int × Int × List ((Int × Int) × List (Int × Int)) × Unit) × Unit × Unit) =>
                            bd
                              (grd (refOk (y70.1, y70.2.1, y70.2.2.1, ()) && (lenOk y67 && decide (y67.length ≤ (100000 : Nat))))
                                (((rinstS (y70.1, y70.2.1, y70.2.2.1, ()) y67).1.1, (rinstS (y70.1, y70.2.1, y70.2.2.1, ()) y67).1.2,
                                    ()),
                                  (rinstS (y70.1, y70.2.1, y70.2.2.1, ()) y67).2, (), ()))
                              fun (x77 : (Int × Int × Unit) × (Int × Int × List ((Int × Int) × List (Int × Int)) × Unit) × Unit × Unit) =>
                              br (x76.1.1 != x77.1.1)
                                (some
                                  ((false, ()), (), (), (), (), (), (), (),
                                    ()))
                                (br (x76.1.2.1 != x77.1.2.1)
                                  (some
                                    ((false, ()), (), (), (), (), (), (), (),
                                      ()))
                                  (bd
                                    (grd (staysS (((0 : Int), (0 : Int)), (7 : Int)) x75.1.1.1 x75.1.1.2 y67 && decide (y67.length < (1000000 : Nat)))
                                      ((true, ()), x75.1.1.1, (), ()))
                                    fun (x78 : (Bool × Unit) × List ((Int × Int) × Int) × Unit × Unit) =>
                                    br (!x78.1.1)
                                      (some
                                        ((false, ()), (), (), (), (), (), (), (),
                                          ()))
                                      (bd
                                        (grd
                                          (likeB (x76.2.1.1, x76.2.1.2.1, x76.2.1.2.2.1, x76.2.1.2.2.2.1, ())
                                            (x77.2.1.1, x77.2.1.2.1, x77.2.1.2.2.1, ()))
                                          ((true, ()), (x76.2.1.1, x76.2.1.2.1, x76.2.1.2.2.1, x76.2.1.2.2.2.1, ()), (),
                                            (), (), ()))
                                        fun
                                          (x79 :
                                            (Bool × Unit) ×
                                              (Int × Int × Int × List ((Int × Int) × List (Int × Int)) × Unit) × Unit × Unit × Unit × Unit) =>
                                        br (!x79.1.1)
                                          (some
                                            ((false, ()), (), (), (), (), (), (), (),
                                              ()))
                                          (rec64
                                            (y66, y67, y68, (x79.2.1.1, x79.2.1.2.1, x79.2.1.2.2.1, x79.2.1.2.2.2.1, ()),
                                              (x77.2.1.1, x77.2.1.2.1, x77.2.1.2.2.1, ()), IntKind.i64.wrap (y71 + (1 : Int)),
                                              ()))))))
                        (bd
                          (grd (decide ((cellsS x74.1.1).length < (1000000 : Nat)))
                            (((lentS (((0 : Int), (0 : Int)), (7 : Int)) (cellsS x74.1.1), (cellsS x74.1.1).length), ()), (),
                              ()))
                          fun (x80 : ((List ((Int × Int) × Int) × Nat) × Unit) × Unit × Unit) =>
                          bd
                            (grd
                              (stoOk (y69.1, y69.2.1, y69.2.2.1, y69.2.2.2.1, ()) &&
                                lenOk (List.take x80.1.1.2 (List.drop (0 : Nat) x80.1.1.1)))
                              (((instS (y69.1, y69.2.1, y69.2.2.1, y69.2.2.2.1, ())
                                        (List.take x80.1.1.2 (List.drop (0 : Nat) x80.1.1.1))).1.1,
                                  (instS (y69.1, y69.2.1, y69.2.2.1, y69.2.2.2.1, ())
                                        (List.take x80.1.1.2 (List.drop (0 : Nat) x80.1.1.1))).1.2,
                                  ()),
                                (instS (y69.1, y69.2.1, y69.2.2.1, y69.2.2.2.1, ()) (List.take x80.1.1.2 (List.drop (0 : Nat) x80.1.1.1))).2,
                                (), ()))
                            fun (x81 : (Int × Int × Unit) × (Int × Int × Int × List ((Int × Int) × List (Int × Int)) × Unit) × Unit × Unit) =>
                            bd
                              (grd
                                (refOk (y70.1, y70.2.1, y70.2.2.1, ()) &&
                                  (lenOk (cellsS x74.1.1) && decide ((cellsS x74.1.1).length ≤ (100000 : Nat))))
                                (((rinstS (y70.1, y70.2.1, y70.2.2.1, ()) (cellsS x74.1.1)).1.1,
                                    (rinstS (y70.1, y70.2.1, y70.2.2.1, ()) (cellsS x74.1.1)).1.2, ()),
                                  (rinstS (y70.1, y70.2.1, y70.2.2.1, ()) (cellsS x74.1.1)).2, (), ()))
                              fun (x82 : (Int × Int × Unit) × (Int × Int × List ((Int × Int) × List (Int × Int)) × Unit) × Unit × Unit) =>
                              br (x81.1.1 != x82.1.1)
                                (some
                                  ((false, ()), (), (), (), (), (), (), (),
                                    ()))
                                (br (x81.1.2.1 != x82.1.2.1)
                                  (some
                                    ((false, ()), (), (), (), (), (), (), (),
                                      ()))
                                  (bd
                                    (grd
                                      (staysS (((0 : Int), (0 : Int)), (7 : Int)) x80.1.1.1 x80.1.1.2 (cellsS x74.1.1) &&
                                        decide ((cellsS x74.1.1).length < (1000000 : Nat)))
                                      ((true, ()), x80.1.1.1, (), ()))
                                    fun (x83 : (Bool × Unit) × List ((Int × Int) × Int) × Unit × Unit) =>
                                    br (!x83.1.1)
                                      (some
                                        ((false, ()), (), (), (), (), (), (), (),
                                          ()))
                                      (bd
                                        (grd
                                          (likeB (x81.2.1.1, x81.2.1.2.1, x81.2.1.2.2.1, x81.2.1.2.2.2.1, ())
                                            (x82.2.1.1, x82.2.1.2.1, x82.2.1.2.2.1, ()))
                                          ((true, ()), (x81.2.1.1, x81.2.1.2.1, x81.2.1.2.2.1, x81.2.1.2.2.2.1, ()), (),
                                            (), (), ()))
                                        fun
                                          (x84 :
                                            (Bool × Unit) ×
                                              (Int × Int × Int × List ((Int × Int) × List (Int × Int)) × Unit) × Unit × Unit × Unit × Unit) =>
                                        br (!x84.1.1)
                                          (some
                                            ((false, ()), (), (), (), (), (), (), (),
                                              ()))
                                          (rec64
                                            (y66, y67, y68, (x84.2.1.1, x84.2.1.2.1, x84.2.1.2.2.1, x84.2.1.2.2.2.1, ()),
                                              (x82.2.1.1, x82.2.1.2.1, x82.2.1.2.2.1, ()), IntKind.i64.wrap (y71 + (1 : Int)),
                                              ())))))))
                      none)
                  (br (x73.1.1 == (1 : Int))
                    (bd
                      (grd (decide (y66.length ≤ (100000 : Nat)))
                        ((List.take ((1 : Nat) + y66.length % (4 : Nat)) (List.drop (x72.1.1 % ((↑y66.length : Int) + (1 : Int))).toNat y66),
                            ()),
                          (), (), ()))
                      fun (x85 : (List Int × Unit) × Unit × Unit × Unit) =>
                      br (!false)
                        (br (x72.1.1.tmod (11 : Int) == (0 : Int))
                          (bd
                            (grd (decide (y67.length < (1000000 : Nat)))
                              (((lentS (((0 : Int), (0 : Int)), (7 : Int)) y67, y67.length), ()), (), ()))
                            fun (x86 : ((List ((Int × Int) × Int) × Nat) × Unit) × Unit × Unit) =>
                            bd
                              (grd
                                (stoOk (y69.1, y69.2.1, y69.2.2.1, y69.2.2.2.1, ()) &&
                                  lenOk (List.take x86.1.1.2 (List.drop (0 : Nat) x86.1.1.1)))
                                (((instS (y69.1, y69.2.1, y69.2.2.1, y69.2.2.2.1, ())
                                          (List.take x86.1.1.2 (List.drop (0 : Nat) x86.1.1.1))).1.1,
                                    (instS (y69.1, y69.2.1, y69.2.2.1, y69.2.2.2.1, ())
                                          (List.take x86.1.1.2 (List.drop (0 : Nat) x86.1.1.1))).1.2,
                                    ()),
                                  (instS (y69.1, y69.2.1, y69.2.2.1, y69.2.2.2.1, ())
                                      (List.take x86.1.1.2 (List.drop (0 : Nat) x86.1.1.1))).2,
                                  (), ()))
                              fun (x87 : (Int × Int × Unit) × (Int × Int × Int × List ((Int × Int) × List (Int × Int)) × Unit) × Unit × Unit) =>
                              bd
                                (grd (refOk (y70.1, y70.2.1, y70.2.2.1, ()) && (lenOk y67 && decide (y67.length ≤ (100000 : Nat))))
                                  (((rinstS (y70.1, y70.2.1, y70.2.2.1, ()) y67).1.1,
                                      (rinstS (y70.1, y70.2.1, y70.2.2.1, ()) y67).1.2, ()),
                                    (rinstS (y70.1, y70.2.1, y70.2.2.1, ()) y67).2, (), ()))
                                fun (x88 : (Int × Int × Unit) × (Int × Int × List ((Int × Int) × List (Int × Int)) × Unit) × Unit × Unit) =>
                                br (x87.1.1 != x88.1.1)
                                  (some
                                    ((false, ()), (), (), (), (), (), (), (),
                                      ()))
                                  (br (x87.1.2.1 != x88.1.2.1)
                                    (some
                                      ((false, ()), (), (), (), (), (), (), (),
                                        ()))
                                    (bd
                                      (grd
                                        (staysS (((0 : Int), (0 : Int)), (7 : Int)) x86.1.1.1 x86.1.1.2 y67 && decide (y67.length < (1000000 : Nat)))
                                        ((true, ()), x86.1.1.1, (), ()))
                                      fun (x89 : (Bool × Unit) × List ((Int × Int) × Int) × Unit × Unit) =>
                                      br (!x89.1.1)
                                        (some
                                          ((false, ()), (), (), (), (), (), (), (),
                                            ()))
                                        (bd
                                          (grd
                                            (likeB (x87.2.1.1, x87.2.1.2.1, x87.2.1.2.2.1, x87.2.1.2.2.2.1, ())
                                              (x88.2.1.1, x88.2.1.2.1, x88.2.1.2.2.1, ()))
                                            ((true, ()), (x87.2.1.1, x87.2.1.2.1, x87.2.1.2.2.1, x87.2.1.2.2.2.1, ()), (),
                                              (), (), ()))
                                          fun
                                            (x90 :
                                              (Bool × Unit) ×
                                                (Int × Int × Int × List ((Int × Int) × List (Int × Int)) × Unit) × Unit × Unit × Unit × Unit) =>
                                          br (!x90.1.1)
                                            (some
                                              ((false, ()), (), (), (), (), (), (),
                                                (), ()))
                                            (rec64
                                              (y66, y67, y68, (x90.2.1.1, x90.2.1.2.1, x90.2.1.2.2.1, x90.2.1.2.2.2.1, ()),
                                                (x88.2.1.1, x88.2.1.2.1, x88.2.1.2.2.1, ()), IntKind.i64.wrap (y71 + (1 : Int)),
                                                ()))))))
                          (bd
                            (grd (decide ((cellsS x85.1.1).length < (1000000 : Nat)))
                              (((lentS (((0 : Int), (0 : Int)), (7 : Int)) (cellsS x85.1.1), (cellsS x85.1.1).length), ()), (),
                                ()))
                            fun (x91 : ((List ((Int × Int) × Int) × Nat) × Unit) × Unit × Unit) =>
                            bd
                              (grd
                                (stoOk (y69.1, y69.2.1, y69.2.2.1, y69.2.2.2.1, ()) &&
                                  lenOk (List.take x91.1.1.2 (List.drop (0 : Nat) x91.1.1.1)))
                                (((instS (y69.1, y69.2.1, y69.2.2.1, y69.2.2.2.1, ())
                                          (List.take x91.1.1.2 (List.drop (0 : Nat) x91.1.1.1))).1.1,
                                    (instS (y69.1, y69.2.1, y69.2.2.1, y69.2.2.2.1, ())
                                          (List.take x91.1.1.2 (List.drop (0 : Nat) x91.1.1.1))).1.2,
                                    ()),
                                  (instS (y69.1, y69.2.1, y69.2.2.1, y69.2.2.2.1, ())
                                      (List.take x91.1.1.2 (List.drop (0 : Nat) x91.1.1.1))).2,
                                  (), ()))
                              fun (x92 : (Int × Int × Unit) × (Int × Int × Int × List ((Int × Int) × List (Int × Int)) × Unit) × Unit × Unit) =>
                              bd
                                (grd
                                  (refOk (y70.1, y70.2.1, y70.2.2.1, ()) &&
                                    (lenOk (cellsS x85.1.1) && decide ((cellsS x85.1.1).length ≤ (100000 : Nat))))
                                  (((rinstS (y70.1, y70.2.1, y70.2.2.1, ()) (cellsS x85.1.1)).1.1,
                                      (rinstS (y70.1, y70.2.1, y70.2.2.1, ()) (cellsS x85.1.1)).1.2, ()),
                                    (rinstS (y70.1, y70.2.1, y70.2.2.1, ()) (cellsS x85.1.1)).2, (), ()))
                                fun (x93 : (Int × Int × Unit) × (Int × Int × List ((Int × Int) × List (Int × Int)) × Unit) × Unit × Unit) =>
                                br (x92.1.1 != x93.1.1)
                                  (some
                                    ((false, ()), (), (), (), (), (), (), (),
                                      ()))
                                  (br (x92.1.2.1 != x93.1.2.1)
                                    (some
                                      ((false, ()), (), (), (), (), (), (), (),
                                        ()))
                                    (bd
                                      (grd
                                        (staysS (((0 : Int), (0 : Int)), (7 : Int)) x91.1.1.1 x91.1.1.2 (cellsS x85.1.1) &&
                                          decide ((cellsS x85.1.1).length < (1000000 : Nat)))
                                        ((true, ()), x91.1.1.1, (), ()))
                                      fun (x94 : (Bool × Unit) × List ((Int × Int) × Int) × Unit × Unit) =>
                                      br (!x94.1.1)
                                        (some
                                          ((false, ()), (), (), (), (), (), (), (),
                                            ()))
                                        (bd
                                          (grd
                                            (likeB (x92.2.1.1, x92.2.1.2.1, x92.2.1.2.2.1, x92.2.1.2.2.2.1, ())
                                              (x93.2.1.1, x93.2.1.2.1, x93.2.1.2.2.1, ()))
                                            ((true, ()), (x92.2.1.1, x92.2.1.2.1, x92.2.1.2.2.1, x92.2.1.2.2.2.1, ()), (),
                                              (), (), ()))
                                          fun
                                            (x95 :
                                              (Bool × Unit) ×
                                                (Int × Int × Int × List ((Int × Int) × List (Int × Int)) × Unit) × Unit × Unit × Unit × Unit) =>
                                          br (!x95.1.1)
                                            (some
                                              ((false, ()), (), (), (), (), (), (),
                                                (), ()))
                                            (rec64
                                              (y66, y67, y68, (x95.2.1.1, x95.2.1.2.1, x95.2.1.2.2.1, x95.2.1.2.2.2.1, ()),
                                                (x93.2.1.1, x93.2.1.2.1, x93.2.1.2.2.1, ()), IntKind.i64.wrap (y71 + (1 : Int)),
                                                ())))))))
                        none)
                    (br (x73.1.1 == (2 : Int))
                      (bd
                        (grd (decide (y66.length ≤ (100000 : Nat)))
                          ((List.take ((1 : Nat) + y66.length % (4 : Nat)) (List.drop (x72.1.1 % ((↑y66.length : Int) + (1 : Int))).toNat y66),
                              ()),
                            (), (), ()))
                        fun (x96 : (List Int × Unit) × Unit × Unit × Unit) =>
                        br (!false)
                          (br (x72.1.1.tmod (11 : Int) == (0 : Int))
                            (bd
                              (grd (decide (y67.length < (1000000 : Nat)))
                                (((lentS (((0 : Int), (0 : Int)), (7 : Int)) y67, y67.length), ()), (), ()))
                              fun (x97 : ((List ((Int × Int) × Int) × Nat) × Unit) × Unit × Unit) =>
                              bd
                                (grd
                                  (stoOk (y69.1, y69.2.1, y69.2.2.1, y69.2.2.2.1, ()) &&
                                    lenOk (List.take x97.1.1.2 (List.drop (0 : Nat) x97.1.1.1)))
                                  (((instS (y69.1, y69.2.1, y69.2.2.1, y69.2.2.2.1, ())
                                            (List.take x97.1.1.2 (List.drop (0 : Nat) x97.1.1.1))).1.1,
                                      (instS (y69.1, y69.2.1, y69.2.2.1, y69.2.2.2.1, ())
                                            (List.take x97.1.1.2 (List.drop (0 : Nat) x97.1.1.1))).1.2,
                                      ()),
                                    (instS (y69.1, y69.2.1, y69.2.2.1, y69.2.2.2.1, ())
                                        (List.take x97.1.1.2 (List.drop (0 : Nat) x97.1.1.1))).2,
                                    (), ()))
                                fun (x98 : (Int × Int × Unit) × (Int × Int × Int × List ((Int × Int) × List (Int × Int)) × Unit) × Unit × Unit) =>
                                bd
                                  (grd (refOk (y70.1, y70.2.1, y70.2.2.1, ()) && (lenOk y67 && decide (y67.length ≤ (100000 : Nat))))
                                    (((rinstS (y70.1, y70.2.1, y70.2.2.1, ()) y67).1.1,
                                        (rinstS (y70.1, y70.2.1, y70.2.2.1, ()) y67).1.2, ()),
                                      (rinstS (y70.1, y70.2.1, y70.2.2.1, ()) y67).2, (), ()))
                                  fun (x99 : (Int × Int × Unit) × (Int × Int × List ((Int × Int) × List (Int × Int)) × Unit) × Unit × Unit) =>
                                  br (x98.1.1 != x99.1.1)
                                    (some
                                      ((false, ()), (), (), (), (), (), (), (),
                                        ()))
                                    (br (x98.1.2.1 != x99.1.2.1)
                                      (some
                                        ((false, ()), (), (), (), (), (), (), (),
                                          ()))
                                      (bd
                                        (grd
                                          (staysS (((0 : Int), (0 : Int)), (7 : Int)) x97.1.1.1 x97.1.1.2 y67 &&
                                            decide (y67.length < (1000000 : Nat)))
                                          ((true, ()), x97.1.1.1, (), ()))
                                        fun (x100 : (Bool × Unit) × List ((Int × Int) × Int) × Unit × Unit) =>
                                        br (!x100.1.1)
                                          (some
                                            ((false, ()), (), (), (), (), (), (), (),
                                              ()))
                                          (bd
                                            (grd
                                              (likeB (x98.2.1.1, x98.2.1.2.1, x98.2.1.2.2.1, x98.2.1.2.2.2.1, ())
                                                (x99.2.1.1, x99.2.1.2.1, x99.2.1.2.2.1, ()))
                                              ((true, ()), (x98.2.1.1, x98.2.1.2.1, x98.2.1.2.2.1, x98.2.1.2.2.2.1, ()), (),
                                                (), (), ()))
                                            fun
                                              (x101 :
                                                (Bool × Unit) ×
                                                  (Int × Int × Int × List ((Int × Int) × List (Int × Int)) × Unit) ×
                                                    Unit × Unit × Unit × Unit) =>
                                            br (!x101.1.1)
                                              (some
                                                ((false, ()), (), (), (), (), (), (),
                                                  (), ()))
                                              (rec64
                                                (y66, y67, y68, (x101.2.1.1, x101.2.1.2.1, x101.2.1.2.2.1, x101.2.1.2.2.2.1, ()),
                                                  (x99.2.1.1, x99.2.1.2.1, x99.2.1.2.2.1, ()), IntKind.i64.wrap (y71 + (1 : Int)),
                                                  ()))))))
                            (bd
                              (grd (decide ((cellsS x96.1.1).length < (1000000 : Nat)))
                                (((lentS (((0 : Int), (0 : Int)), (7 : Int)) (cellsS x96.1.1), (cellsS x96.1.1).length), ()), (),
                                  ()))
                              fun (x102 : ((List ((Int × Int) × Int) × Nat) × Unit) × Unit × Unit) =>
                              bd
                                (grd
                                  (stoOk (y69.1, y69.2.1, y69.2.2.1, y69.2.2.2.1, ()) &&
                                    lenOk (List.take x102.1.1.2 (List.drop (0 : Nat) x102.1.1.1)))
                                  (((instS (y69.1, y69.2.1, y69.2.2.1, y69.2.2.2.1, ())
                                            (List.take x102.1.1.2 (List.drop (0 : Nat) x102.1.1.1))).1.1,
                                      (instS (y69.1, y69.2.1, y69.2.2.1, y69.2.2.2.1, ())
                                            (List.take x102.1.1.2 (List.drop (0 : Nat) x102.1.1.1))).1.2,
                                      ()),
                                    (instS (y69.1, y69.2.1, y69.2.2.1, y69.2.2.2.1, ())
                                        (List.take x102.1.1.2 (List.drop (0 : Nat) x102.1.1.1))).2,
                                    (), ()))
                                fun
                                  (x103 : (Int × Int × Unit) × (Int × Int × Int × List ((Int × Int) × List (Int × Int)) × Unit) × Unit × Unit) =>
                                bd
                                  (grd
                                    (refOk (y70.1, y70.2.1, y70.2.2.1, ()) &&
                                      (lenOk (cellsS x96.1.1) && decide ((cellsS x96.1.1).length ≤ (100000 : Nat))))
                                    (((rinstS (y70.1, y70.2.1, y70.2.2.1, ()) (cellsS x96.1.1)).1.1,
                                        (rinstS (y70.1, y70.2.1, y70.2.2.1, ()) (cellsS x96.1.1)).1.2, ()),
                                      (rinstS (y70.1, y70.2.1, y70.2.2.1, ()) (cellsS x96.1.1)).2, (), ()))
                                  fun (x104 : (Int × Int × Unit) × (Int × Int × List ((Int × Int) × List (Int × Int)) × Unit) × Unit × Unit) =>
                                  br (x103.1.1 != x104.1.1)
                                    (some
                                      ((false, ()), (), (), (), (), (), (), (),
                                        ()))
                                    (br (x103.1.2.1 != x104.1.2.1)
                                      (some
                                        ((false, ()), (), (), (), (), (), (), (),
                                          ()))
                                      (bd
                                        (grd
                                          (staysS (((0 : Int), (0 : Int)), (7 : Int)) x102.1.1.1 x102.1.1.2 (cellsS x96.1.1) &&
                                            decide ((cellsS x96.1.1).length < (1000000 : Nat)))
                                          ((true, ()), x102.1.1.1, (), ()))
                                        fun (x105 : (Bool × Unit) × List ((Int × Int) × Int) × Unit × Unit) =>
                                        br (!x105.1.1)
                                          (some
                                            ((false, ()), (), (), (), (), (), (), (),
                                              ()))
                                          (bd
                                            (grd
                                              (likeB (x103.2.1.1, x103.2.1.2.1, x103.2.1.2.2.1, x103.2.1.2.2.2.1, ())
                                                (x104.2.1.1, x104.2.1.2.1, x104.2.1.2.2.1, ()))
                                              ((true, ()), (x103.2.1.1, x103.2.1.2.1, x103.2.1.2.2.1, x103.2.1.2.2.2.1, ()),
                                                (), (), (), ()))
                                            fun
                                              (x106 :
                                                (Bool × Unit) ×
                                                  (Int × Int × Int × List ((Int × Int) × List (Int × Int)) × Unit) ×
                                                    Unit × Unit × Unit × Unit) =>
                                            br (!x106.1.1)
                                              (some
                                                ((false, ()), (), (), (), (), (), (),
                                                  (), ()))
                                              (rec64
                                                (y66, y67, y68, (x106.2.1.1, x106.2.1.2.1, x106.2.1.2.2.1, x106.2.1.2.2.2.1, ()),
                                                  (x104.2.1.1, x104.2.1.2.1, x104.2.1.2.2.1, ()), IntKind.i64.wrap (y71 + (1 : Int)),
                                                  ())))))))
                          none)
                      (br (x73.1.1 == (3 : Int))
                        (bd
                          (grd (decide (y66.length ≤ (100000 : Nat)))
                            ((List.take ((1 : Nat) + y66.length % (4 : Nat)) (List.drop (x72.1.1 % ((↑y66.length : Int) + (1 : Int))).toNat y66),
                                ()),
                              (), (), ()))
                          fun (x107 : (List Int × Unit) × Unit × Unit × Unit) =>
                          br (!false)
                            (br (x72.1.1.tmod (11 : Int) == (0 : Int))
                              (bd
                                (grd (decide (y67.length < (1000000 : Nat)))
                                  (((lentS (((0 : Int), (0 : Int)), (7 : Int)) y67, y67.length), ()), (), ()))
                                fun (x108 : ((List ((Int × Int) × Int) × Nat) × Unit) × Unit × Unit) =>
                                bd
                                  (grd
                                    (stoOk (y69.1, y69.2.1, y69.2.2.1, y69.2.2.2.1, ()) &&
                                      lenOk (List.take x108.1.1.2 (List.drop (0 : Nat) x108.1.1.1)))
                                    (((instS (y69.1, y69.2.1, y69.2.2.1, y69.2.2.2.1, ())
                                              (List.take x108.1.1.2 (List.drop (0 : Nat) x108.1.1.1))).1.1,
                                        (instS (y69.1, y69.2.1, y69.2.2.1, y69.2.2.2.1, ())
                                              (List.take x108.1.1.2 (List.drop (0 : Nat) x108.1.1.1))).1.2,
                                        ()),
                                      (instS (y69.1, y69.2.1, y69.2.2.1, y69.2.2.2.1, ())
                                          (List.take x108.1.1.2 (List.drop (0 : Nat) x108.1.1.1))).2,
                                      (), ()))
                                  fun
                                    (x109 :
                                      (Int × Int × Unit) × (Int × Int × Int × List ((Int × Int) × List (Int × Int)) × Unit) × Unit × Unit) =>
                                  bd
                                    (grd (refOk (y70.1, y70.2.1, y70.2.2.1, ()) && (lenOk y67 && decide (y67.length ≤ (100000 : Nat))))
                                      (((rinstS (y70.1, y70.2.1, y70.2.2.1, ()) y67).1.1,
                                          (rinstS (y70.1, y70.2.1, y70.2.2.1, ()) y67).1.2, ()),
                                        (rinstS (y70.1, y70.2.1, y70.2.2.1, ()) y67).2, (), ()))
                                    fun (x110 : (Int × Int × Unit) × (Int × Int × List ((Int × Int) × List (Int × Int)) × Unit) × Unit × Unit) =>
                                    br (x109.1.1 != x110.1.1)
                                      (some
                                        ((false, ()), (), (), (), (), (), (), (),
                                          ()))
                                      (br (x109.1.2.1 != x110.1.2.1)
                                        (some
                                          ((false, ()), (), (), (), (), (), (), (),
                                            ()))
                                        (bd
                                          (grd
                                            (staysS (((0 : Int), (0 : Int)), (7 : Int)) x108.1.1.1 x108.1.1.2 y67 &&
                                              decide (y67.length < (1000000 : Nat)))
                                            ((true, ()), x108.1.1.1, (), ()))
                                          fun (x111 : (Bool × Unit) × List ((Int × Int) × Int) × Unit × Unit) =>
                                          br (!x111.1.1)
                                            (some
                                              ((false, ()), (), (), (), (), (), (),
                                                (), ()))
                                            (bd
                                              (grd
                                                (likeB (x109.2.1.1, x109.2.1.2.1, x109.2.1.2.2.1, x109.2.1.2.2.2.1, ())
                                                  (x110.2.1.1, x110.2.1.2.1, x110.2.1.2.2.1, ()))
                                                ((true, ()), (x109.2.1.1, x109.2.1.2.1, x109.2.1.2.2.1, x109.2.1.2.2.2.1, ()),
                                                  (), (), (), ()))
                                              fun
                                                (x112 :
                                                  (Bool × Unit) ×
                                                    (Int × Int × Int × List ((Int × Int) × List (Int × Int)) × Unit) ×
                                                      Unit × Unit × Unit × Unit) =>
                                              br (!x112.1.1)
                                                (some
                                                  ((false, ()), (), (), (), (), (), (),
                                                    (), ()))
                                                (rec64
                                                  (y66, y67, y68, (x112.2.1.1, x112.2.1.2.1, x112.2.1.2.2.1, x112.2.1.2.2.2.1, ()),
                                                    (x110.2.1.1, x110.2.1.2.1, x110.2.1.2.2.1, ()), IntKind.i64.wrap (y71 + (1 : Int)),
                                                    ()))))))
                              (bd
                                (grd (decide ((cellsS x107.1.1).length < (1000000 : Nat)))
                                  (((lentS (((0 : Int), (0 : Int)), (7 : Int)) (cellsS x107.1.1), (cellsS x107.1.1).length), ()), (),
                                    ()))
                                fun (x113 : ((List ((Int × Int) × Int) × Nat) × Unit) × Unit × Unit) =>
                                bd
                                  (grd
                                    (stoOk (y69.1, y69.2.1, y69.2.2.1, y69.2.2.2.1, ()) &&
                                      lenOk (List.take x113.1.1.2 (List.drop (0 : Nat) x113.1.1.1)))
                                    (((instS (y69.1, y69.2.1, y69.2.2.1, y69.2.2.2.1, ())
                                              (List.take x113.1.1.2 (List.drop (0 : Nat) x113.1.1.1))).1.1,
                                        (instS (y69.1, y69.2.1, y69.2.2.1, y69.2.2.2.1, ())
                                              (List.take x113.1.1.2 (List.drop (0 : Nat) x113.1.1.1))).1.2,
                                        ()),
                                      (instS (y69.1, y69.2.1, y69.2.2.1, y69.2.2.2.1, ())
                                          (List.take x113.1.1.2 (List.drop (0 : Nat) x113.1.1.1))).2,
                                      (), ()))
                                  fun
                                    (x114 :
                                      (Int × Int × Unit) × (Int × Int × Int × List ((Int × Int) × List (Int × Int)) × Unit) × Unit × Unit) =>
                                  bd
                                    (grd
                                      (refOk (y70.1, y70.2.1, y70.2.2.1, ()) &&
                                        (lenOk (cellsS x107.1.1) && decide ((cellsS x107.1.1).length ≤ (100000 : Nat))))
                                      (((rinstS (y70.1, y70.2.1, y70.2.2.1, ()) (cellsS x107.1.1)).1.1,
                                          (rinstS (y70.1, y70.2.1, y70.2.2.1, ()) (cellsS x107.1.1)).1.2, ()),
                                        (rinstS (y70.1, y70.2.1, y70.2.2.1, ()) (cellsS x107.1.1)).2, (), ()))
                                    fun (x115 : (Int × Int × Unit) × (Int × Int × List ((Int × Int) × List (Int × Int)) × Unit) × Unit × Unit) =>
                                    br (x114.1.1 != x115.1.1)
                                      (some
                                        ((false, ()), (), (), (), (), (), (), (),
                                          ()))
                                      (br (x114.1.2.1 != x115.1.2.1)
                                        (some
                                          ((false, ()), (), (), (), (), (), (), (),
                                            ()))
                                        (bd
                                          (grd
                                            (staysS (((0 : Int), (0 : Int)), (7 : Int)) x113.1.1.1 x113.1.1.2 (cellsS x107.1.1) &&
                                              decide ((cellsS x107.1.1).length < (1000000 : Nat)))
                                            ((true, ()), x113.1.1.1, (), ()))
                                          fun (x116 : (Bool × Unit) × List ((Int × Int) × Int) × Unit × Unit) =>
                                          br (!x116.1.1)
                                            (some
                                              ((false, ()), (), (), (), (), (), (),
                                                (), ()))
                                            (bd
                                              (grd
                                                (likeB (x114.2.1.1, x114.2.1.2.1, x114.2.1.2.2.1, x114.2.1.2.2.2.1, ())
                                                  (x115.2.1.1, x115.2.1.2.1, x115.2.1.2.2.1, ()))
                                                ((true, ()), (x114.2.1.1, x114.2.1.2.1, x114.2.1.2.2.1, x114.2.1.2.2.2.1, ()),
                                                  (), (), (), ()))
                                              fun
                                                (x117 :
                                                  (Bool × Unit) ×
                                                    (Int × Int × Int × List ((Int × Int) × List (Int × Int)) × Unit) ×
                                                      Unit × Unit × Unit × Unit) =>
                                              br (!x117.1.1)
                                                (some
                                                  ((false, ()), (), (), (), (), (), (),
                                                    (), ()))
                                                (rec64
                                                  (y66, y67, y68, (x117.2.1.1, x117.2.1.2.1, x117.2.1.2.2.1, x117.2.1.2.2.2.1, ()),
                                                    (x115.2.1.1, x115.2.1.2.1, x115.2.1.2.2.1, ()), IntKind.i64.wrap (y71 + (1 : Int)),
                                                    ())))))))
                            none)
                        (br (x73.1.1 == (4 : Int))
                          (bd
                            (grd (stoOk (y69.1, y69.2.1, y69.2.2.1, y69.2.2.2.1, ()) && nodM y69.2.2.2.1)
                              ((goneM (IntKind.u64.wrap (y70.1 - IntKind.u64.wrap (x72.1.1.tmod (7 : Int)))) y69.2.2.2.1, ()),
                                gcS (y69.1, y69.2.1, y69.2.2.1, y69.2.2.2.1, ())
                                  (IntKind.u64.wrap (y70.1 - IntKind.u64.wrap (x72.1.1.tmod (7 : Int)))),
                                (), ()))
                            fun (x118 : (Int × Unit) × (Int × Int × Int × List ((Int × Int) × List (Int × Int)) × Unit) × Unit × Unit) =>
                            bd
                              (grd (refOk (y70.1, y70.2.1, y70.2.2.1, ()))
                                ((goneM (IntKind.u64.wrap (y70.1 - IntKind.u64.wrap (x72.1.1.tmod (7 : Int)))) y70.2.2.1, ()),
                                  rgcS (y70.1, y70.2.1, y70.2.2.1, ()) (IntKind.u64.wrap (y70.1 - IntKind.u64.wrap (x72.1.1.tmod (7 : Int)))),
                                  (), ()))
                              fun (x119 : (Int × Unit) × (Int × Int × List ((Int × Int) × List (Int × Int)) × Unit) × Unit × Unit) =>
                              br (x118.1.1 != x119.1.1)
                                (some
                                  ((false, ()), (), (), (), (), (), (), (),
                                    ()))
                                (bd
                                  (grd
                                    (likeB (x118.2.1.1, x118.2.1.2.1, x118.2.1.2.2.1, x118.2.1.2.2.2.1, ())
                                      (x119.2.1.1, x119.2.1.2.1, x119.2.1.2.2.1, ()))
                                    ((true, ()), (x118.2.1.1, x118.2.1.2.1, x118.2.1.2.2.1, x118.2.1.2.2.2.1, ()), (),
                                      (), (), ()))
                                  fun
                                    (x120 :
                                      (Bool × Unit) ×
                                        (Int × Int × Int × List ((Int × Int) × List (Int × Int)) × Unit) × Unit × Unit × Unit × Unit) =>
                                  br (!x120.1.1)
                                    (some
                                      ((false, ()), (), (), (), (), (), (), (),
                                        ()))
                                    (rec64
                                      (y66, y67, y68, (x120.2.1.1, x120.2.1.2.1, x120.2.1.2.2.1, x120.2.1.2.2.2.1, ()),
                                        (x119.2.1.1, x119.2.1.2.1, x119.2.1.2.2.1, ()), IntKind.i64.wrap (y71 + (1 : Int)), ()))))
                          (br (x73.1.1 == (5 : Int))
                            (bd
                              (grd (stoOk (y69.1, y69.2.1, y69.2.2.1, y69.2.2.2.1, ()) && nodM y69.2.2.2.1)
                                ((goneM (IntKind.u64.wrap (y70.1 - IntKind.u64.wrap (x72.1.1.tmod (7 : Int)))) y69.2.2.2.1, ()),
                                  gcS (y69.1, y69.2.1, y69.2.2.1, y69.2.2.2.1, ())
                                    (IntKind.u64.wrap (y70.1 - IntKind.u64.wrap (x72.1.1.tmod (7 : Int)))),
                                  (), ()))
                              fun (x121 : (Int × Unit) × (Int × Int × Int × List ((Int × Int) × List (Int × Int)) × Unit) × Unit × Unit) =>
                              bd
                                (grd (refOk (y70.1, y70.2.1, y70.2.2.1, ()))
                                  ((goneM (IntKind.u64.wrap (y70.1 - IntKind.u64.wrap (x72.1.1.tmod (7 : Int)))) y70.2.2.1, ()),
                                    rgcS (y70.1, y70.2.1, y70.2.2.1, ())
                                      (IntKind.u64.wrap (y70.1 - IntKind.u64.wrap (x72.1.1.tmod (7 : Int)))),
                                    (), ()))
                                fun (x122 : (Int × Unit) × (Int × Int × List ((Int × Int) × List (Int × Int)) × Unit) × Unit × Unit) =>
                                br (x121.1.1 != x122.1.1)
                                  (some
                                    ((false, ()), (), (), (), (), (), (), (),
                                      ()))
                                  (bd
                                    (grd
                                      (likeB (x121.2.1.1, x121.2.1.2.1, x121.2.1.2.2.1, x121.2.1.2.2.2.1, ())
                                        (x122.2.1.1, x122.2.1.2.1, x122.2.1.2.2.1, ()))
                                      ((true, ()), (x121.2.1.1, x121.2.1.2.1, x121.2.1.2.2.1, x121.2.1.2.2.2.1, ()), (),
                                        (), (), ()))
                                    fun
                                      (x123 :
                                        (Bool × Unit) ×
                                          (Int × Int × Int × List ((Int × Int) × List (Int × Int)) × Unit) × Unit × Unit × Unit × Unit) =>
                                    br (!x123.1.1)
                                      (some
                                        ((false, ()), (), (), (), (), (), (), (),
                                          ()))
                                      (rec64
                                        (y66, y67, y68, (x123.2.1.1, x123.2.1.2.1, x123.2.1.2.2.1, x123.2.1.2.2.2.1, ()),
                                          (x122.2.1.1, x122.2.1.2.1, x122.2.1.2.2.1, ()), IntKind.i64.wrap (y71 + (1 : Int)), ()))))
                            (bd
                              (grd (likeB (y69.1, y69.2.1, y69.2.2.1, y69.2.2.2.1, ()) (y70.1, y70.2.1, y70.2.2.1, ()))
                                ((true, ()), (y69.1, y69.2.1, y69.2.2.1, y69.2.2.2.1, ()), (), (), (),
                                  ()))
                              fun
                                (x124 :
                                  (Bool × Unit) ×
                                    (Int × Int × Int × List ((Int × Int) × List (Int × Int)) × Unit) × Unit × Unit × Unit × Unit) =>
                              br (!x124.1.1)
                                (some
                                  ((false, ()), (), (), (), (), (), (), (),
                                    ()))
                                (rec64
                                  (y66, y67, y68, (x124.2.1.1, x124.2.1.2.1, x124.2.1.2.2.1, x124.2.1.2.2.2.1, ()),
                                    (y70.1, y70.2.1, y70.2.2.1, ()), IntKind.i64.wrap (y71 + (1 : Int)), ())))))))))
              none)
            none)
          none)
      none)
    none)
  (bd
    (grd (likeB (y69.1, y69.2.1, y69.2.2.1, y69.2.2.2.1, ()) (y70.1, y70.2.1, y70.2.2.1, ()))
      ((true, ()), (y69.1, y69.2.1, y69.2.2.1, y69.2.2.2.1, ()), (), (), (), ()))
    fun (x125 : (Bool × Unit) × (Int × Int × Int × List ((Int × Int) × List (Int × Int)) × Unit) × Unit × Unit × Unit × Unit) =>
    some ((x125.1.1, ()), (), (), (), (), (), (), (), ()))
def lStorePlays_L3 (rec126 : List Int ×
    List ((Int × Int) × Int) ×
      List Int ×
        (Int × Int × Int × List ((Int × Int) × List (Int × Int)) × Unit) ×
          (Int × Int × List ((Int × Int) × List (Int × Int)) × Unit) × Int × Unit →
  Option
    ((Bool × Unit) ×
      Unit ×
        Unit ×
          Unit ×
            Unit ×
              Unit ×
                Unit ×
                  Unit ×
                    Unit)) : List Int ×
    List ((Int × Int) × Int) ×
      List Int ×
        (Int × Int × Int × List ((Int × Int) × List (Int × Int)) × Unit) ×
          (Int × Int × List ((Int × Int) × List (Int × Int)) × Unit) × Int × Unit →
  Option ((Bool × Unit) × Unit × Unit × Unit × Unit × Unit × Unit × Unit × Unit) := fun (y128, y129, y130, y131, y132, y133, ()) =>
  br (decide (y133 < (↑y130.length : Int)))
  (br (decide ((0 : Int) ≤ y133))
    (br (decide (y133 < (↑y130.length : Int)))
      (bd
        (grd (true && (true && decide ((1000 : Int) < (4611686018427387904 : Int))))
          ((digitS (y130.getD y133.toNat (0 : Int)) (6 : Int) (1000 : Int), ()), (), (), (), ()))
        fun (x134 : (Int × Unit) × Unit × Unit × Unit × Unit) =>
        br (!false)
          (br (decide ((0 : Int) ≤ y133))
            (br (decide (y133 < (↑y130.length : Int)))
              (bd
                (grd (true && decide ((6 : Int) < (4611686018427387904 : Int)))
                  ((y130.getD y133.toNat (0 : Int) % (6 : Int), ()), (), (), ()))
                fun (x135 : (Int × Unit) × Unit × Unit × Unit) =>
                br (x135.1.1 == (0 : Int))
                  (bd
                    (grd (decide (y128.length ≤ (100000 : Nat)))
                      ((List.take ((1 : Nat) + y128.length % (4 : Nat)) (List.drop (x134.1.1 % ((↑y128.length : Int) + (1 : Int))).toNat y128),
                          ()),
                        (), (), ()))
                    fun (x136 : (List Int × Unit) × Unit × Unit × Unit) =>
                    br (!false)
                      (br (x134.1.1.tmod (11 : Int) == (0 : Int))
                        (bd
                          (grd (decide (y129.length < (1000000 : Nat)))
                            (((lentS (((0 : Int), (0 : Int)), (7 : Int)) y129, y129.length), ()), (), ()))
                          fun (x137 : ((List ((Int × Int) × Int) × Nat) × Unit) × Unit × Unit) =>
                          bd
                            (grd
                              (stoOk (y131.1, y131.2.1, y131.2.2.1, y131.2.2.2.1, ()) &&
                                lenOk (List.take x137.1.1.2 (List.drop (0 : Nat) x137.1.1.1)))
                              (((instS (y131.1, y131.2.1, y131.2.2.1, y131.2.2.2.1, ())
                                        (List.take x137.1.1.2 (List.drop (0 : Nat) x137.1.1.1))).1.1,
                                  (instS (y131.1, y131.2.1, y131.2.2.1, y131.2.2.2.1, ())
                                        (List.take x137.1.1.2 (List.drop (0 : Nat) x137.1.1.1))).1.2,
                                  ()),
                                (instS (y131.1, y131.2.1, y131.2.2.1, y131.2.2.2.1, ())
                                    (List.take x137.1.1.2 (List.drop (0 : Nat) x137.1.1.1))).2,
                                (), ()))
                            fun (x138 : (Int × Int × Unit) × (Int × Int × Int × List ((Int × Int) × List (Int × Int)) × Unit) × Unit × Unit) =>
                            bd
                              (grd (refOk (y132.1, y132.2.1, y132.2.2.1, ()) && (lenOk y129 && decide (y129.length ≤ (100000 : Nat))))
                                (((rinstS (y132.1, y132.2.1, y132.2.2.1, ()) y129).1.1,
                                    (rinstS (y132.1, y132.2.1, y132.2.2.1, ()) y129).1.2, ()),
                                  (rinstS (y132.1, y132.2.1, y132.2.2.1, ()) y129).2, (), ()))
                              fun (x139 : (Int × Int × Unit) × (Int × Int × List ((Int × Int) × List (Int × Int)) × Unit) × Unit × Unit) =>
                              br (x138.1.1 != x139.1.1)
                                (some
                                  ((false, ()), (), (), (), (), (), (), (),
                                    ()))
                                (br (x138.1.2.1 != x139.1.2.1)
                                  (some
                                    ((false, ()), (), (), (), (), (), (), (),
                                      ()))
                                  (bd
                                    (grd
                                      (staysS (((0 : Int), (0 : Int)), (7 : Int)) x137.1.1.1 x137.1.1.2 y129 &&
                                        decide (y129.length < (1000000 : Nat)))
                                      ((true, ()), x137.1.1.1, (), ()))
                                    fun (x140 : (Bool × Unit) × List ((Int × Int) × Int) × Unit × Unit) =>
                                    br (!x140.1.1)
                                      (some
                                        ((false, ()), (), (), (), (), (), (), (),
                                          ()))
                                      (bd
                                        (grd
                                          (likeB (x138.2.1.1, x138.2.1.2.1, x138.2.1.2.2.1, x138.2.1.2.2.2.1, ())
                                            (x139.2.1.1, x139.2.1.2.1, x139.2.1.2.2.1, ()))
                                          ((true, ()), (x138.2.1.1, x138.2.1.2.1, x138.2.1.2.2.1, x138.2.1.2.2.2.1, ()), (),
                                            (), (), ()))
                                        fun
                                          (x141 :
                                            (Bool × Unit) ×
                                              (Int × Int × Int × List ((Int × Int) × List (Int × Int)) × Unit) × Unit × Unit × Unit × Unit) =>
                                        br (!x141.1.1)
                                          (some
                                            ((false, ()), (), (), (), (), (), (), (),
                                              ()))
                                          (rec126
                                            (y128, y129, y130, (x141.2.1.1, x141.2.1.2.1, x141.2.1.2.2.1, x141.2.1.2.2.2.1, ()),
                                              (x139.2.1.1, x139.2.1.2.1, x139.2.1.2.2.1, ()), IntKind.i64.wrap (y133 + (1 : Int)),
                                              ()))))))
                        (bd
                          (grd (decide ((cellsS x136.1.1).length < (1000000 : Nat)))
                            (((lentS (((0 : Int), (0 : Int)), (7 : Int)) (cellsS x136.1.1), (cellsS x136.1.1).length), ()), (),
                              ()))
                          fun (x142 : ((List ((Int × Int) × Int) × Nat) × Unit) × Unit × Unit) =>
                          bd
                            (grd
                              (stoOk (y131.1, y131.2.1, y131.2.2.1, y131.2.2.2.1, ()) &&
                                lenOk (List.take x142.1.1.2 (List.drop (0 : Nat) x142.1.1.1)))
                              (((instS (y131.1, y131.2.1, y131.2.2.1, y131.2.2.2.1, ())
                                        (List.take x142.1.1.2 (List.drop (0 : Nat) x142.1.1.1))).1.1,
                                  (instS (y131.1, y131.2.1, y131.2.2.1, y131.2.2.2.1, ())
                                        (List.take x142.1.1.2 (List.drop (0 : Nat) x142.1.1.1))).1.2,
                                  ()),
                                (instS (y131.1, y131.2.1, y131.2.2.1, y131.2.2.2.1, ())
                                    (List.take x142.1.1.2 (List.drop (0 : Nat) x142.1.1.1))).2,
                                (), ()))
                            fun (x143 : (Int × Int × Unit) × (Int × Int × Int × List ((Int × Int) × List (Int × Int)) × Unit) × Unit × Unit) =>
                            bd
                              (grd
                                (refOk (y132.1, y132.2.1, y132.2.2.1, ()) &&
                                  (lenOk (cellsS x136.1.1) && decide ((cellsS x136.1.1).length ≤ (100000 : Nat))))
                                (((rinstS (y132.1, y132.2.1, y132.2.2.1, ()) (cellsS x136.1.1)).1.1,
                                    (rinstS (y132.1, y132.2.1, y132.2.2.1, ()) (cellsS x136.1.1)).1.2, ()),
                                  (rinstS (y132.1, y132.2.1, y132.2.2.1, ()) (cellsS x136.1.1)).2, (), ()))
                              fun (x144 : (Int × Int × Unit) × (Int × Int × List ((Int × Int) × List (Int × Int)) × Unit) × Unit × Unit) =>
                              br (x143.1.1 != x144.1.1)
                                (some
                                  ((false, ()), (), (), (), (), (), (), (),
                                    ()))
                                (br (x143.1.2.1 != x144.1.2.1)
                                  (some
                                    ((false, ()), (), (), (), (), (), (), (),
                                      ()))
                                  (bd
                                    (grd
                                      (staysS (((0 : Int), (0 : Int)), (7 : Int)) x142.1.1.1 x142.1.1.2 (cellsS x136.1.1) &&
                                        decide ((cellsS x136.1.1).length < (1000000 : Nat)))
                                      ((true, ()), x142.1.1.1, (), ()))
                                    fun (x145 : (Bool × Unit) × List ((Int × Int) × Int) × Unit × Unit) =>
                                    br (!x145.1.1)
                                      (some
                                        ((false, ()), (), (), (), (), (), (), (),
                                          ()))
                                      (bd
                                        (grd
                                          (likeB (x143.2.1.1, x143.2.1.2.1, x143.2.1.2.2.1, x143.2.1.2.2.2.1, ())
                                            (x144.2.1.1, x144.2.1.2.1, x144.2.1.2.2.1, ()))
                                          ((true, ()), (x143.2.1.1, x143.2.1.2.1, x143.2.1.2.2.1, x143.2.1.2.2.2.1, ()), (),
                                            (), (), ()))
                                        fun
                                          (x146 :
                                            (Bool × Unit) ×
                                              (Int × Int × Int × List ((Int × Int) × List (Int × Int)) × Unit) × Unit × Unit × Unit × Unit) =>
                                        br (!x146.1.1)
                                          (some
                                            ((false, ()), (), (), (), (), (), (), (),
                                              ()))
                                          (rec126
                                            (y128, y129, y130, (x146.2.1.1, x146.2.1.2.1, x146.2.1.2.2.1, x146.2.1.2.2.2.1, ()),
                                              (x144.2.1.1, x144.2.1.2.1, x144.2.1.2.2.1, ()), IntKind.i64.wrap (y133 + (1 : Int)),
                                              ())))))))
                      none)
                  (br (x135.1.1 == (1 : Int))
                    (bd
                      (grd (decide (y128.length ≤ (100000 : Nat)))
                        ((List.take ((1 : Nat) + y128.length % (4 : Nat)) (List.drop (x134.1.1 % ((↑y128.length : Int) + (1 : Int))).toNat y128),
                            ()),
                          (), (), ()))
                      fun (x147 : (List Int × Unit) × Unit × Unit × Unit) =>
                      br (!false)
                        (br (x134.1.1.tmod (11 : Int) == (0 : Int))
                          (bd
                            (grd (decide (y129.length < (1000000 : Nat)))
                              (((lentS (((0 : Int), (0 : Int)), (7 : Int)) y129, y129.length), ()), (), ()))
                            fun (x148 : ((List ((Int × Int) × Int) × Nat) × Unit) × Unit × Unit) =>
                            bd
                              (grd
                                (stoOk (y131.1, y131.2.1, y131.2.2.1, y131.2.2.2.1, ()) &&
                                  lenOk (List.take x148.1.1.2 (List.drop (0 : Nat) x148.1.1.1)))
                                (((instS (y131.1, y131.2.1, y131.2.2.1, y131.2.2.2.1, ())
                                          (List.take x148.1.1.2 (List.drop (0 : Nat) x148.1.1.1))).1.1,
                                    (instS (y131.1, y131.2.1, y131.2.2.1, y131.2.2.2.1, ())
                                          (List.take x148.1.1.2 (List.drop (0 : Nat) x148.1.1.1))).1.2,
                                    ()),
                                  (instS (y131.1, y131.2.1, y131.2.2.1, y131.2.2.2.1, ())
                                      (List.take x148.1.1.2 (List.drop (0 : Nat) x148.1.1.1))).2,
                                  (), ()))
                              fun (x149 : (Int × Int × Unit) × (Int × Int × Int × List ((Int × Int) × List (Int × Int)) × Unit) × Unit × Unit) =>
                              bd
                                (grd (refOk (y132.1, y132.2.1, y132.2.2.1, ()) && (lenOk y129 && decide (y129.length ≤ (100000 : Nat))))
                                  (((rinstS (y132.1, y132.2.1, y132.2.2.1, ()) y129).1.1,
                                      (rinstS (y132.1, y132.2.1, y132.2.2.1, ()) y129).1.2, ()),
                                    (rinstS (y132.1, y132.2.1, y132.2.2.1, ()) y129).2, (), ()))
                                fun (x150 : (Int × Int × Unit) × (Int × Int × List ((Int × Int) × List (Int × Int)) × Unit) × Unit × Unit) =>
                                br (x149.1.1 != x150.1.1)
                                  (some
                                    ((false, ()), (), (), (), (), (), (), (),
                                      ()))
                                  (br (x149.1.2.1 != x150.1.2.1)
                                    (some
                                      ((false, ()), (), (), (), (), (), (), (),
                                        ()))
                                    (bd
                                      (grd
                                        (staysS (((0 : Int), (0 : Int)), (7 : Int)) x148.1.1.1 x148.1.1.2 y129 &&
                                          decide (y129.length < (1000000 : Nat)))
                                        ((true, ()), x148.1.1.1, (), ()))
                                      fun (x151 : (Bool × Unit) × List ((Int × Int) × Int) × Unit × Unit) =>
                                      br (!x151.1.1)
                                        (some
                                          ((false, ()), (), (), (), (), (), (), (),
                                            ()))
                                        (bd
                                          (grd
                                            (likeB (x149.2.1.1, x149.2.1.2.1, x149.2.1.2.2.1, x149.2.1.2.2.2.1, ())
                                              (x150.2.1.1, x150.2.1.2.1, x150.2.1.2.2.1, ()))
                                            ((true, ()), (x149.2.1.1, x149.2.1.2.1, x149.2.1.2.2.1, x149.2.1.2.2.2.1, ()), (),
                                              (), (), ()))
                                          fun
                                            (x152 :
                                              (Bool × Unit) ×
                                                (Int × Int × Int × List ((Int × Int) × List (Int × Int)) × Unit) × Unit × Unit × Unit × Unit) =>
                                          br (!x152.1.1)
                                            (some
                                              ((false, ()), (), (), (), (), (), (),
                                                (), ()))
                                            (rec126
                                              (y128, y129, y130, (x152.2.1.1, x152.2.1.2.1, x152.2.1.2.2.1, x152.2.1.2.2.2.1, ()),
                                                (x150.2.1.1, x150.2.1.2.1, x150.2.1.2.2.1, ()), IntKind.i64.wrap (y133 + (1 : Int)),
                                                ()))))))
                          (bd
                            (grd (decide ((cellsS x147.1.1).length < (1000000 : Nat)))
                              (((lentS (((0 : Int), (0 : Int)), (7 : Int)) (cellsS x147.1.1), (cellsS x147.1.1).length), ()), (),
                                ()))
                            fun (x153 : ((List ((Int × Int) × Int) × Nat) × Unit) × Unit × Unit) =>
                            bd
                              (grd
                                (stoOk (y131.1, y131.2.1, y131.2.2.1, y131.2.2.2.1, ()) &&
                                  lenOk (List.take x153.1.1.2 (List.drop (0 : Nat) x153.1.1.1)))
                                (((instS (y131.1, y131.2.1, y131.2.2.1, y131.2.2.2.1, ())
                                          (List.take x153.1.1.2 (List.drop (0 : Nat) x153.1.1.1))).1.1,
                                    (instS (y131.1, y131.2.1, y131.2.2.1, y131.2.2.2.1, ())
                                          (List.take x153.1.1.2 (List.drop (0 : Nat) x153.1.1.1))).1.2,
                                    ()),
                                  (instS (y131.1, y131.2.1, y131.2.2.1, y131.2.2.2.1, ())
                                      (List.take x153.1.1.2 (List.drop (0 : Nat) x153.1.1.1))).2,
                                  (), ()))
                              fun (x154 : (Int × Int × Unit) × (Int × Int × Int × List ((Int × Int) × List (Int × Int)) × Unit) × Unit × Unit) =>
                              bd
                                (grd
                                  (refOk (y132.1, y132.2.1, y132.2.2.1, ()) &&
                                    (lenOk (cellsS x147.1.1) && decide ((cellsS x147.1.1).length ≤ (100000 : Nat))))
                                  (((rinstS (y132.1, y132.2.1, y132.2.2.1, ()) (cellsS x147.1.1)).1.1,
                                      (rinstS (y132.1, y132.2.1, y132.2.2.1, ()) (cellsS x147.1.1)).1.2, ()),
                                    (rinstS (y132.1, y132.2.1, y132.2.2.1, ()) (cellsS x147.1.1)).2, (), ()))
                                fun (x155 : (Int × Int × Unit) × (Int × Int × List ((Int × Int) × List (Int × Int)) × Unit) × Unit × Unit) =>
                                br (x154.1.1 != x155.1.1)
                                  (some
                                    ((false, ()), (), (), (), (), (), (), (),
                                      ()))
                                  (br (x154.1.2.1 != x155.1.2.1)
                                    (some
                                      ((false, ()), (), (), (), (), (), (), (),
                                        ()))
                                    (bd
                                      (grd
                                        (staysS (((0 : Int), (0 : Int)), (7 : Int)) x153.1.1.1 x153.1.1.2 (cellsS x147.1.1) &&
                                          decide ((cellsS x147.1.1).length < (1000000 : Nat)))
                                        ((true, ()), x153.1.1.1, (), ()))
                                      fun (x156 : (Bool × Unit) × List ((Int × Int) × Int) × Unit × Unit) =>
                                      br (!x156.1.1)
                                        (some
                                          ((false, ()), (), (), (), (), (), (), (),
                                            ()))
                                        (bd
                                          (grd
                                            (likeB (x154.2.1.1, x154.2.1.2.1, x154.2.1.2.2.1, x154.2.1.2.2.2.1, ())
                                              (x155.2.1.1, x155.2.1.2.1, x155.2.1.2.2.1, ()))
                                            ((true, ()), (x154.2.1.1, x154.2.1.2.1, x154.2.1.2.2.1, x154.2.1.2.2.2.1, ()), (),
                                              (), (), ()))
                                          fun
                                            (x157 :
                                              (Bool × Unit) ×
                                                (Int × Int × Int × List ((Int × Int) × List (Int × Int)) × Unit) × Unit × Unit × Unit × Unit) =>
                                          br (!x157.1.1)
                                            (some
                                              ((false, ()), (), (), (), (), (), (),
                                                (), ()))
                                            (rec126
                                              (y128, y129, y130, (x157.2.1.1, x157.2.1.2.1, x157.2.1.2.2.1, x157.2.1.2.2.2.1, ()),
                                                (x155.2.1.1, x155.2.1.2.1, x155.2.1.2.2.1, ()), IntKind.i64.wrap (y133 + (1 : Int)),
                                                ())))))))
                        none)
                    (br (x135.1.1 == (2 : Int))
                      (bd
                        (grd (decide (y128.length ≤ (100000 : Nat)))
                          ((List.take ((1 : Nat) + y128.length % (4 : Nat)) (List.drop (x134.1.1 % ((↑y128.length : Int) + (1 : Int))).toNat y128),
                              ()),
                            (), (), ()))
                        fun (x158 : (List Int × Unit) × Unit × Unit × Unit) =>
                        br (!false)
                          (br (x134.1.1.tmod (11 : Int) == (0 : Int))
                            (bd
                              (grd (decide (y129.length < (1000000 : Nat)))
                                (((lentS (((0 : Int), (0 : Int)), (7 : Int)) y129, y129.length), ()), (), ()))
                              fun (x159 : ((List ((Int × Int) × Int) × Nat) × Unit) × Unit × Unit) =>
                              bd
                                (grd
                                  (stoOk (y131.1, y131.2.1, y131.2.2.1, y131.2.2.2.1, ()) &&
                                    lenOk (List.take x159.1.1.2 (List.drop (0 : Nat) x159.1.1.1)))
                                  (((instS (y131.1, y131.2.1, y131.2.2.1, y131.2.2.2.1, ())
                                            (List.take x159.1.1.2 (List.drop (0 : Nat) x159.1.1.1))).1.1,
                                      (instS (y131.1, y131.2.1, y131.2.2.1, y131.2.2.2.1, ())
                                            (List.take x159.1.1.2 (List.drop (0 : Nat) x159.1.1.1))).1.2,
                                      ()),
                                    (instS (y131.1, y131.2.1, y131.2.2.1, y131.2.2.2.1, ())
                                        (List.take x159.1.1.2 (List.drop (0 : Nat) x159.1.1.1))).2,
                                    (), ()))
                                fun
                                  (x160 : (Int × Int × Unit) × (Int × Int × Int × List ((Int × Int) × List (Int × Int)) × Unit) × Unit × Unit) =>
                                bd
                                  (grd (refOk (y132.1, y132.2.1, y132.2.2.1, ()) && (lenOk y129 && decide (y129.length ≤ (100000 : Nat))))
                                    (((rinstS (y132.1, y132.2.1, y132.2.2.1, ()) y129).1.1,
                                        (rinstS (y132.1, y132.2.1, y132.2.2.1, ()) y129).1.2, ()),
                                      (rinstS (y132.1, y132.2.1, y132.2.2.1, ()) y129).2, (), ()))
                                  fun (x161 : (Int × Int × Unit) × (Int × Int × List ((Int × Int) × List (Int × Int)) × Unit) × Unit × Unit) =>
                                  br (x160.1.1 != x161.1.1)
                                    (some
                                      ((false, ()), (), (), (), (), (), (), (),
                                        ()))
                                    (br (x160.1.2.1 != x161.1.2.1)
                                      (some
                                        ((false, ()), (), (), (), (), (), (), (),
                                          ()))
                                      (bd
                                        (grd
                                          (staysS (((0 : Int), (0 : Int)), (7 : Int)) x159.1.1.1 x159.1.1.2 y129 &&
                                            decide (y129.length < (1000000 : Nat)))
                                          ((true, ()), x159.1.1.1, (), ()))
                                        fun (x162 : (Bool × Unit) × List ((Int × Int) × Int) × Unit × Unit) =>
                                        br (!x162.1.1)
                                          (some
                                            ((false, ()), (), (), (), (), (), (), (),
                                              ()))
                                          (bd
                                            (grd
                                              (likeB (x160.2.1.1, x160.2.1.2.1, x160.2.1.2.2.1, x160.2.1.2.2.2.1, ())
                                                (x161.2.1.1, x161.2.1.2.1, x161.2.1.2.2.1, ()))
                                              ((true, ()), (x160.2.1.1, x160.2.1.2.1, x160.2.1.2.2.1, x160.2.1.2.2.2.1, ()),
                                                (), (), (), ()))
                                            fun
                                              (x163 :
                                                (Bool × Unit) ×
                                                  (Int × Int × Int × List ((Int × Int) × List (Int × Int)) × Unit) ×
                                                    Unit × Unit × Unit × Unit) =>
                                            br (!x163.1.1)
                                              (some
                                                ((false, ()), (), (), (), (), (), (),
                                                  (), ()))
                                              (rec126
                                                (y128, y129, y130, (x163.2.1.1, x163.2.1.2.1, x163.2.1.2.2.1, x163.2.1.2.2.2.1, ()),
                                                  (x161.2.1.1, x161.2.1.2.1, x161.2.1.2.2.1, ()), IntKind.i64.wrap (y133 + (1 : Int)),
                                                  ()))))))
                            (bd
                              (grd (decide ((cellsS x158.1.1).length < (1000000 : Nat)))
                                (((lentS (((0 : Int), (0 : Int)), (7 : Int)) (cellsS x158.1.1), (cellsS x158.1.1).length), ()), (),
                                  ()))
                              fun (x164 : ((List ((Int × Int) × Int) × Nat) × Unit) × Unit × Unit) =>
                              bd
                                (grd
                                  (stoOk (y131.1, y131.2.1, y131.2.2.1, y131.2.2.2.1, ()) &&
                                    lenOk (List.take x164.1.1.2 (List.drop (0 : Nat) x164.1.1.1)))
                                  (((instS (y131.1, y131.2.1, y131.2.2.1, y131.2.2.2.1, ())
                                            (List.take x164.1.1.2 (List.drop (0 : Nat) x164.1.1.1))).1.1,
                                      (instS (y131.1, y131.2.1, y131.2.2.1, y131.2.2.2.1, ())
                                            (List.take x164.1.1.2 (List.drop (0 : Nat) x164.1.1.1))).1.2,
                                      ()),
                                    (instS (y131.1, y131.2.1, y131.2.2.1, y131.2.2.2.1, ())
                                        (List.take x164.1.1.2 (List.drop (0 : Nat) x164.1.1.1))).2,
                                    (), ()))
                                fun
                                  (x165 : (Int × Int × Unit) × (Int × Int × Int × List ((Int × Int) × List (Int × Int)) × Unit) × Unit × Unit) =>
                                bd
                                  (grd
                                    (refOk (y132.1, y132.2.1, y132.2.2.1, ()) &&
                                      (lenOk (cellsS x158.1.1) && decide ((cellsS x158.1.1).length ≤ (100000 : Nat))))
                                    (((rinstS (y132.1, y132.2.1, y132.2.2.1, ()) (cellsS x158.1.1)).1.1,
                                        (rinstS (y132.1, y132.2.1, y132.2.2.1, ()) (cellsS x158.1.1)).1.2, ()),
                                      (rinstS (y132.1, y132.2.1, y132.2.2.1, ()) (cellsS x158.1.1)).2, (), ()))
                                  fun (x166 : (Int × Int × Unit) × (Int × Int × List ((Int × Int) × List (Int × Int)) × Unit) × Unit × Unit) =>
                                  br (x165.1.1 != x166.1.1)
                                    (some
                                      ((false, ()), (), (), (), (), (), (), (),
                                        ()))
                                    (br (x165.1.2.1 != x166.1.2.1)
                                      (some
                                        ((false, ()), (), (), (), (), (), (), (),
                                          ()))
                                      (bd
                                        (grd
                                          (staysS (((0 : Int), (0 : Int)), (7 : Int)) x164.1.1.1 x164.1.1.2 (cellsS x158.1.1) &&
                                            decide ((cellsS x158.1.1).length < (1000000 : Nat)))
                                          ((true, ()), x164.1.1.1, (), ()))
                                        fun (x167 : (Bool × Unit) × List ((Int × Int) × Int) × Unit × Unit) =>
                                        br (!x167.1.1)
                                          (some
                                            ((false, ()), (), (), (), (), (), (), (),
                                              ()))
                                          (bd
                                            (grd
                                              (likeB (x165.2.1.1, x165.2.1.2.1, x165.2.1.2.2.1, x165.2.1.2.2.2.1, ())
                                                (x166.2.1.1, x166.2.1.2.1, x166.2.1.2.2.1, ()))
                                              ((true, ()), (x165.2.1.1, x165.2.1.2.1, x165.2.1.2.2.1, x165.2.1.2.2.2.1, ()),
                                                (), (), (), ()))
                                            fun
                                              (x168 :
                                                (Bool × Unit) ×
                                                  (Int × Int × Int × List ((Int × Int) × List (Int × Int)) × Unit) ×
                                                    Unit × Unit × Unit × Unit) =>
                                            br (!x168.1.1)
                                              (some
                                                ((false, ()), (), (), (), (), (), (),
                                                  (), ()))
                                              (rec126
                                                (y128, y129, y130, (x168.2.1.1, x168.2.1.2.1, x168.2.1.2.2.1, x168.2.1.2.2.2.1, ()),
                                                  (x166.2.1.1, x166.2.1.2.1, x166.2.1.2.2.1, ()), IntKind.i64.wrap (y133 + (1 : Int)),
                                                  ())))))))
                          none)
                      (br (x135.1.1 == (3 : Int))
                        (bd
                          (grd (decide (y128.length ≤ (100000 : Nat)))
                            ((List.take ((1 : Nat) + y128.length % (4 : Nat)) (List.drop (x134.1.1 % ((↑y128.length : Int) + (1 : Int))).toNat y128),
                                ()),
                              (), (), ()))
                          fun (x169 : (List Int × Unit) × Unit × Unit × Unit) =>
                          br (!false)
                            (br (x134.1.1.tmod (11 : Int) == (0 : Int))
                              (bd
                                (grd (decide (y129.length < (1000000 : Nat)))
                                  (((lentS (((0 : Int), (0 : Int)), (7 : Int)) y129, y129.length), ()), (), ()))
                                fun (x170 : ((List ((Int × Int) × Int) × Nat) × Unit) × Unit × Unit) =>
                                bd
                                  (grd
                                    (stoOk (y131.1, y131.2.1, y131.2.2.1, y131.2.2.2.1, ()) &&
                                      lenOk (List.take x170.1.1.2 (List.drop (0 : Nat) x170.1.1.1)))
                                    (((instS (y131.1, y131.2.1, y131.2.2.1, y131.2.2.2.1, ())
                                              (List.take x170.1.1.2 (List.drop (0 : Nat) x170.1.1.1))).1.1,
                                        (instS (y131.1, y131.2.1, y131.2.2.1, y131.2.2.2.1, ())
                                              (List.take x170.1.1.2 (List.drop (0 : Nat) x170.1.1.1))).1.2,
                                        ()),
                                      (instS (y131.1, y131.2.1, y131.2.2.1, y131.2.2.2.1, ())
                                          (List.take x170.1.1.2 (List.drop (0 : Nat) x170.1.1.1))).2,
                                      (), ()))
                                  fun
                                    (x171 :
                                      (Int × Int × Unit) × (Int × Int × Int × List ((Int × Int) × List (Int × Int)) × Unit) × Unit × Unit) =>
                                  bd
                                    (grd (refOk (y132.1, y132.2.1, y132.2.2.1, ()) && (lenOk y129 && decide (y129.length ≤ (100000 : Nat))))
                                      (((rinstS (y132.1, y132.2.1, y132.2.2.1, ()) y129).1.1,
                                          (rinstS (y132.1, y132.2.1, y132.2.2.1, ()) y129).1.2, ()),
                                        (rinstS (y132.1, y132.2.1, y132.2.2.1, ()) y129).2, (), ()))
                                    fun (x172 : (Int × Int × Unit) × (Int × Int × List ((Int × Int) × List (Int × Int)) × Unit) × Unit × Unit) =>
                                    br (x171.1.1 != x172.1.1)
                                      (some
                                        ((false, ()), (), (), (), (), (), (), (),
                                          ()))
                                      (br (x171.1.2.1 != x172.1.2.1)
                                        (some
                                          ((false, ()), (), (), (), (), (), (), (),
                                            ()))
                                        (bd
                                          (grd
                                            (staysS (((0 : Int), (0 : Int)), (7 : Int)) x170.1.1.1 x170.1.1.2 y129 &&
                                              decide (y129.length < (1000000 : Nat)))
                                            ((true, ()), x170.1.1.1, (), ()))
                                          fun (x173 : (Bool × Unit) × List ((Int × Int) × Int) × Unit × Unit) =>
                                          br (!x173.1.1)
                                            (some
                                              ((false, ()), (), (), (), (), (), (),
                                                (), ()))
                                            (bd
                                              (grd
                                                (likeB (x171.2.1.1, x171.2.1.2.1, x171.2.1.2.2.1, x171.2.1.2.2.2.1, ())
                                                  (x172.2.1.1, x172.2.1.2.1, x172.2.1.2.2.1, ()))
                                                ((true, ()), (x171.2.1.1, x171.2.1.2.1, x171.2.1.2.2.1, x171.2.1.2.2.2.1, ()),
                                                  (), (), (), ()))
                                              fun
                                                (x174 :
                                                  (Bool × Unit) ×
                                                    (Int × Int × Int × List ((Int × Int) × List (Int × Int)) × Unit) ×
                                                      Unit × Unit × Unit × Unit) =>
                                              br (!x174.1.1)
                                                (some
                                                  ((false, ()), (), (), (), (), (), (),
                                                    (), ()))
                                                (rec126
                                                  (y128, y129, y130, (x174.2.1.1, x174.2.1.2.1, x174.2.1.2.2.1, x174.2.1.2.2.2.1, ()),
                                                    (x172.2.1.1, x172.2.1.2.1, x172.2.1.2.2.1, ()), IntKind.i64.wrap (y133 + (1 : Int)),
                                                    ()))))))
                              (bd
                                (grd (decide ((cellsS x169.1.1).length < (1000000 : Nat)))
                                  (((lentS (((0 : Int), (0 : Int)), (7 : Int)) (cellsS x169.1.1), (cellsS x169.1.1).length), ()), (),
                                    ()))
                                fun (x175 : ((List ((Int × Int) × Int) × Nat) × Unit) × Unit × Unit) =>
                                bd
                                  (grd
                                    (stoOk (y131.1, y131.2.1, y131.2.2.1, y131.2.2.2.1, ()) &&
                                      lenOk (List.take x175.1.1.2 (List.drop (0 : Nat) x175.1.1.1)))
                                    (((instS (y131.1, y131.2.1, y131.2.2.1, y131.2.2.2.1, ())
                                              (List.take x175.1.1.2 (List.drop (0 : Nat) x175.1.1.1))).1.1,
                                        (instS (y131.1, y131.2.1, y131.2.2.1, y131.2.2.2.1, ())
                                              (List.take x175.1.1.2 (List.drop (0 : Nat) x175.1.1.1))).1.2,
                                        ()),
                                      (instS (y131.1, y131.2.1, y131.2.2.1, y131.2.2.2.1, ())
                                          (List.take x175.1.1.2 (List.drop (0 : Nat) x175.1.1.1))).2,
                                      (), ()))
                                  fun
                                    (x176 :
                                      (Int × Int × Unit) × (Int × Int × Int × List ((Int × Int) × List (Int × Int)) × Unit) × Unit × Unit) =>
                                  bd
                                    (grd
                                      (refOk (y132.1, y132.2.1, y132.2.2.1, ()) &&
                                        (lenOk (cellsS x169.1.1) && decide ((cellsS x169.1.1).length ≤ (100000 : Nat))))
                                      (((rinstS (y132.1, y132.2.1, y132.2.2.1, ()) (cellsS x169.1.1)).1.1,
                                          (rinstS (y132.1, y132.2.1, y132.2.2.1, ()) (cellsS x169.1.1)).1.2, ()),
                                        (rinstS (y132.1, y132.2.1, y132.2.2.1, ()) (cellsS x169.1.1)).2, (), ()))
                                    fun (x177 : (Int × Int × Unit) × (Int × Int × List ((Int × Int) × List (Int × Int)) × Unit) × Unit × Unit) =>
                                    br (x176.1.1 != x177.1.1)
                                      (some
                                        ((false, ()), (), (), (), (), (), (), (),
                                          ()))
                                      (br (x176.1.2.1 != x177.1.2.1)
                                        (some
                                          ((false, ()), (), (), (), (), (), (), (),
                                            ()))
                                        (bd
                                          (grd
                                            (staysS (((0 : Int), (0 : Int)), (7 : Int)) x175.1.1.1 x175.1.1.2 (cellsS x169.1.1) &&
                                              decide ((cellsS x169.1.1).length < (1000000 : Nat)))
                                            ((true, ()), x175.1.1.1, (), ()))
                                          fun (x178 : (Bool × Unit) × List ((Int × Int) × Int) × Unit × Unit) =>
                                          br (!x178.1.1)
                                            (some
                                              ((false, ()), (), (), (), (), (), (),
                                                (), ()))
                                            (bd
                                              (grd
                                                (likeB (x176.2.1.1, x176.2.1.2.1, x176.2.1.2.2.1, x176.2.1.2.2.2.1, ())
                                                  (x177.2.1.1, x177.2.1.2.1, x177.2.1.2.2.1, ()))
                                                ((true, ()), (x176.2.1.1, x176.2.1.2.1, x176.2.1.2.2.1, x176.2.1.2.2.2.1, ()),
                                                  (), (), (), ()))
                                              fun
                                                (x179 :
                                                  (Bool × Unit) ×
                                                    (Int × Int × Int × List ((Int × Int) × List (Int × Int)) × Unit) ×
                                                      Unit × Unit × Unit × Unit) =>
                                              br (!x179.1.1)
                                                (some
                                                  ((false, ()), (), (), (), (), (), (),
                                                    (), ()))
                                                (rec126
                                                  (y128, y129, y130, (x179.2.1.1, x179.2.1.2.1, x179.2.1.2.2.1, x179.2.1.2.2.2.1, ()),
                                                    (x177.2.1.1, x177.2.1.2.1, x177.2.1.2.2.1, ()), IntKind.i64.wrap (y133 + (1 : Int)),
                                                    ())))))))
                            none)
                        (br (x135.1.1 == (4 : Int))
                          (bd
                            (grd (stoOk (y131.1, y131.2.1, y131.2.2.1, y131.2.2.2.1, ()) && nodM y131.2.2.2.1)
                              ((goneM (IntKind.u64.wrap (y132.1 - IntKind.u64.wrap (x134.1.1.tmod (7 : Int)))) y131.2.2.2.1, ()),
                                gcS (y131.1, y131.2.1, y131.2.2.1, y131.2.2.2.1, ())
                                  (IntKind.u64.wrap (y132.1 - IntKind.u64.wrap (x134.1.1.tmod (7 : Int)))),
                                (), ()))
                            fun (x180 : (Int × Unit) × (Int × Int × Int × List ((Int × Int) × List (Int × Int)) × Unit) × Unit × Unit) =>
                            bd
                              (grd (refOk (y132.1, y132.2.1, y132.2.2.1, ()))
                                ((goneM (IntKind.u64.wrap (y132.1 - IntKind.u64.wrap (x134.1.1.tmod (7 : Int)))) y132.2.2.1, ()),
                                  rgcS (y132.1, y132.2.1, y132.2.2.1, ())
                                    (IntKind.u64.wrap (y132.1 - IntKind.u64.wrap (x134.1.1.tmod (7 : Int)))),
                                  (), ()))
                              fun (x181 : (Int × Unit) × (Int × Int × List ((Int × Int) × List (Int × Int)) × Unit) × Unit × Unit) =>
                              br (x180.1.1 != x181.1.1)
                                (some
                                  ((false, ()), (), (), (), (), (), (), (),
                                    ()))
                                (bd
                                  (grd
                                    (likeB (x180.2.1.1, x180.2.1.2.1, x180.2.1.2.2.1, x180.2.1.2.2.2.1, ())
                                      (x181.2.1.1, x181.2.1.2.1, x181.2.1.2.2.1, ()))
                                    ((true, ()), (x180.2.1.1, x180.2.1.2.1, x180.2.1.2.2.1, x180.2.1.2.2.2.1, ()), (),
                                      (), (), ()))
                                  fun
                                    (x182 :
                                      (Bool × Unit) ×
                                        (Int × Int × Int × List ((Int × Int) × List (Int × Int)) × Unit) × Unit × Unit × Unit × Unit) =>
                                  br (!x182.1.1)
                                    (some
                                      ((false, ()), (), (), (), (), (), (), (),
                                        ()))
                                    (rec126
                                      (y128, y129, y130, (x182.2.1.1, x182.2.1.2.1, x182.2.1.2.2.1, x182.2.1.2.2.2.1, ()),
                                        (x181.2.1.1, x181.2.1.2.1, x181.2.1.2.2.1, ()), IntKind.i64.wrap (y133 + (1 : Int)), ()))))
                          (br (x135.1.1 == (5 : Int))
                            (bd
                              (grd (stoOk (y131.1, y131.2.1, y131.2.2.1, y131.2.2.2.1, ()) && nodM y131.2.2.2.1)
                                ((goneM (IntKind.u64.wrap (y132.1 - IntKind.u64.wrap (x134.1.1.tmod (7 : Int)))) y131.2.2.2.1, ()),
                                  gcS (y131.1, y131.2.1, y131.2.2.1, y131.2.2.2.1, ())
                                    (IntKind.u64.wrap (y132.1 - IntKind.u64.wrap (x134.1.1.tmod (7 : Int)))),
                                  (), ()))
                              fun (x183 : (Int × Unit) × (Int × Int × Int × List ((Int × Int) × List (Int × Int)) × Unit) × Unit × Unit) =>
                              bd
                                (grd (refOk (y132.1, y132.2.1, y132.2.2.1, ()))
                                  ((goneM (IntKind.u64.wrap (y132.1 - IntKind.u64.wrap (x134.1.1.tmod (7 : Int)))) y132.2.2.1, ()),
                                    rgcS (y132.1, y132.2.1, y132.2.2.1, ())
                                      (IntKind.u64.wrap (y132.1 - IntKind.u64.wrap (x134.1.1.tmod (7 : Int)))),
                                    (), ()))
                                fun (x184 : (Int × Unit) × (Int × Int × List ((Int × Int) × List (Int × Int)) × Unit) × Unit × Unit) =>
                                br (x183.1.1 != x184.1.1)
                                  (some
                                    ((false, ()), (), (), (), (), (), (), (),
                                      ()))
                                  (bd
                                    (grd
                                      (likeB (x183.2.1.1, x183.2.1.2.1, x183.2.1.2.2.1, x183.2.1.2.2.2.1, ())
                                        (x184.2.1.1, x184.2.1.2.1, x184.2.1.2.2.1, ()))
                                      ((true, ()), (x183.2.1.1, x183.2.1.2.1, x183.2.1.2.2.1, x183.2.1.2.2.2.1, ()), (),
                                        (), (), ()))
                                    fun
                                      (x185 :
                                        (Bool × Unit) ×
                                          (Int × Int × Int × List ((Int × Int) × List (Int × Int)) × Unit) × Unit × Unit × Unit × Unit) =>
                                    br (!x185.1.1)
                                      (some
                                        ((false, ()), (), (), (), (), (), (), (),
                                          ()))
                                      (rec126
                                        (y128, y129, y130, (x185.2.1.1, x185.2.1.2.1, x185.2.1.2.2.1, x185.2.1.2.2.2.1, ()),
                                          (x184.2.1.1, x184.2.1.2.1, x184.2.1.2.2.1, ()), IntKind.i64.wrap (y133 + (1 : Int)), ()))))
                            (bd
                              (grd (likeB (y131.1, y131.2.1, y131.2.2.1, y131.2.2.2.1, ()) (y132.1, y132.2.1, y132.2.2.1, ()))
                                ((true, ()), (y131.1, y131.2.1, y131.2.2.1, y131.2.2.2.1, ()), (), (), (),
                                  ()))
                              fun
                                (x186 :
                                  (Bool × Unit) ×
                                    (Int × Int × Int × List ((Int × Int) × List (Int × Int)) × Unit) × Unit × Unit × Unit × Unit) =>
                              br (!x186.1.1)
                                (some
                                  ((false, ()), (), (), (), (), (), (), (),
                                    ()))
                                (rec126
                                  (y128, y129, y130, (x186.2.1.1, x186.2.1.2.1, x186.2.1.2.2.1, x186.2.1.2.2.2.1, ()),
                                    (y132.1, y132.2.1, y132.2.2.1, ()), IntKind.i64.wrap (y133 + (1 : Int)), ())))))))))
              none)
            none)
          none)
      none)
    none)
  (bd
    (grd (likeB (y131.1, y131.2.1, y131.2.2.1, y131.2.2.2.1, ()) (y132.1, y132.2.1, y132.2.2.1, ()))
      ((true, ()), (y131.1, y131.2.1, y131.2.2.1, y131.2.2.2.1, ()), (), (), (), ()))
    fun (x187 : (Bool × Unit) × (Int × Int × Int × List ((Int × Int) × List (Int × Int)) × Unit) × Unit × Unit × Unit × Unit) =>
    some ((x187.1.1, ()), (), (), (), (), (), (), (), ()))
def lStorePlays_L4 (rec188 : List Int ×
    List ((Int × Int) × Int) ×
      List Int ×
        (Int × Int × Int × List ((Int × Int) × List (Int × Int)) × Unit) ×
          (Int × Int × List ((Int × Int) × List (Int × Int)) × Unit) × Int × Unit →
  Option
    ((Bool × Unit) ×
      Unit ×
        Unit ×
          Unit ×
            Unit ×
              Unit ×
                Unit ×
                  Unit ×
                    Unit)) : List Int ×
    List ((Int × Int) × Int) ×
      List Int ×
        (Int × Int × Int × List ((Int × Int) × List (Int × Int)) × Unit) ×
          (Int × Int × List ((Int × Int) × List (Int × Int)) × Unit) × Int × Unit →
  Option ((Bool × Unit) × Unit × Unit × Unit × Unit × Unit × Unit × Unit × Unit) := fun (y190, y191, y192, y193, y194, y195, ()) =>
  br (decide (y195 < (↑y192.length : Int)))
  (br (decide ((0 : Int) ≤ y195))
    (br (decide (y195 < (↑y192.length : Int)))
      (bd
        (grd (true && (true && decide ((1000 : Int) < (4611686018427387904 : Int))))
          ((digitS (y192.getD y195.toNat (0 : Int)) (6 : Int) (1000 : Int), ()), (), (), (), ()))
        fun (x196 : (Int × Unit) × Unit × Unit × Unit × Unit) =>
        br (!false)
          (br (decide ((0 : Int) ≤ y195))
            (br (decide (y195 < (↑y192.length : Int)))
              (bd
                (grd (true && decide ((6 : Int) < (4611686018427387904 : Int)))
                  ((y192.getD y195.toNat (0 : Int) % (6 : Int), ()), (), (), ()))
                fun (x197 : (Int × Unit) × Unit × Unit × Unit) =>
                br (x197.1.1 == (0 : Int))
                  (bd
                    (grd (decide (y190.length ≤ (100000 : Nat)))
                      ((List.take ((1 : Nat) + y190.length % (4 : Nat)) (List.drop (x196.1.1 % ((↑y190.length : Int) + (1 : Int))).toNat y190),
                          ()),
                        (), (), ()))
                    fun (x198 : (List Int × Unit) × Unit × Unit × Unit) =>
                    br (!false)
                      (br (x196.1.1.tmod (11 : Int) == (0 : Int))
                        (bd
                          (grd (decide (y191.length < (1000000 : Nat)))
                            (((lentS (((0 : Int), (0 : Int)), (7 : Int)) y191, y191.length), ()), (), ()))
                          fun (x199 : ((List ((Int × Int) × Int) × Nat) × Unit) × Unit × Unit) =>
                          bd
                            (grd
                              (stoOk (y193.1, y193.2.1, y193.2.2.1, y193.2.2.2.1, ()) &&
                                lenOk (List.take x199.1.1.2 (List.drop (0 : Nat) x199.1.1.1)))
                              (((instS (y193.1, y193.2.1, y193.2.2.1, y193.2.2.2.1, ())
                                        (List.take x199.1.1.2 (List.drop (0 : Nat) x199.1.1.1))).1.1,
                                  (instS (y193.1, y193.2.1, y193.2.2.1, y193.2.2.2.1, ())
                                        (List.take x199.1.1.2 (List.drop (0 : Nat) x199.1.1.1))).1.2,
                                  ()),
                                (instS (y193.1, y193.2.1, y193.2.2.1, y193.2.2.2.1, ())
                                    (List.take x199.1.1.2 (List.drop (0 : Nat) x199.1.1.1))).2,
                                (), ()))
                            fun (x200 : (Int × Int × Unit) × (Int × Int × Int × List ((Int × Int) × List (Int × Int)) × Unit) × Unit × Unit) =>
                            bd
                              (grd (refOk (y194.1, y194.2.1, y194.2.2.1, ()) && (lenOk y191 && decide (y191.length ≤ (100000 : Nat))))
                                (((rinstS (y194.1, y194.2.1, y194.2.2.1, ()) y191).1.1,
                                    (rinstS (y194.1, y194.2.1, y194.2.2.1, ()) y191).1.2, ()),
                                  (rinstS (y194.1, y194.2.1, y194.2.2.1, ()) y191).2, (), ()))
                              fun (x201 : (Int × Int × Unit) × (Int × Int × List ((Int × Int) × List (Int × Int)) × Unit) × Unit × Unit) =>
                              br (x200.1.1 != x201.1.1)
                                (some
                                  ((false, ()), (), (), (), (), (), (), (),
                                    ()))
                                (br (x200.1.2.1 != x201.1.2.1)
                                  (some
                                    ((false, ()), (), (), (), (), (), (), (),
                                      ()))
                                  (bd
                                    (grd
                                      (staysS (((0 : Int), (0 : Int)), (7 : Int)) x199.1.1.1 x199.1.1.2 y191 &&
                                        decide (y191.length < (1000000 : Nat)))
                                      ((true, ()), x199.1.1.1, (), ()))
                                    fun (x202 : (Bool × Unit) × List ((Int × Int) × Int) × Unit × Unit) =>
                                    br (!x202.1.1)
                                      (some
                                        ((false, ()), (), (), (), (), (), (), (),
                                          ()))
                                      (bd
                                        (grd
                                          (likeB (x200.2.1.1, x200.2.1.2.1, x200.2.1.2.2.1, x200.2.1.2.2.2.1, ())
                                            (x201.2.1.1, x201.2.1.2.1, x201.2.1.2.2.1, ()))
                                          ((true, ()), (x200.2.1.1, x200.2.1.2.1, x200.2.1.2.2.1, x200.2.1.2.2.2.1, ()), (),
                                            (), (), ()))
                                        fun
                                          (x203 :
                                            (Bool × Unit) ×
                                              (Int × Int × Int × List ((Int × Int) × List (Int × Int)) × Unit) × Unit × Unit × Unit × Unit) =>
                                        br (!x203.1.1)
                                          (some
                                            ((false, ()), (), (), (), (), (), (), (),
                                              ()))
                                          (rec188
                                            (y190, y191, y192, (x203.2.1.1, x203.2.1.2.1, x203.2.1.2.2.1, x203.2.1.2.2.2.1, ()),
                                              (x201.2.1.1, x201.2.1.2.1, x201.2.1.2.2.1, ()), IntKind.i64.wrap (y195 + (1 : Int)),
                                              ()))))))
                        (bd
                          (grd (decide ((cellsS x198.1.1).length < (1000000 : Nat)))
                            (((lentS (((0 : Int), (0 : Int)), (7 : Int)) (cellsS x198.1.1), (cellsS x198.1.1).length), ()), (),
                              ()))
                          fun (x204 : ((List ((Int × Int) × Int) × Nat) × Unit) × Unit × Unit) =>
                          bd
                            (grd
                              (stoOk (y193.1, y193.2.1, y193.2.2.1, y193.2.2.2.1, ()) &&
                                lenOk (List.take x204.1.1.2 (List.drop (0 : Nat) x204.1.1.1)))
                              (((instS (y193.1, y193.2.1, y193.2.2.1, y193.2.2.2.1, ())
                                        (List.take x204.1.1.2 (List.drop (0 : Nat) x204.1.1.1))).1.1,
                                  (instS (y193.1, y193.2.1, y193.2.2.1, y193.2.2.2.1, ())
                                        (List.take x204.1.1.2 (List.drop (0 : Nat) x204.1.1.1))).1.2,
                                  ()),
                                (instS (y193.1, y193.2.1, y193.2.2.1, y193.2.2.2.1, ())
                                    (List.take x204.1.1.2 (List.drop (0 : Nat) x204.1.1.1))).2,
                                (), ()))
                            fun (x205 : (Int × Int × Unit) × (Int × Int × Int × List ((Int × Int) × List (Int × Int)) × Unit) × Unit × Unit) =>
                            bd
                              (grd
                                (refOk (y194.1, y194.2.1, y194.2.2.1, ()) &&
                                  (lenOk (cellsS x198.1.1) && decide ((cellsS x198.1.1).length ≤ (100000 : Nat))))
                                (((rinstS (y194.1, y194.2.1, y194.2.2.1, ()) (cellsS x198.1.1)).1.1,
                                    (rinstS (y194.1, y194.2.1, y194.2.2.1, ()) (cellsS x198.1.1)).1.2, ()),
                                  (rinstS (y194.1, y194.2.1, y194.2.2.1, ()) (cellsS x198.1.1)).2, (), ()))
                              fun (x206 : (Int × Int × Unit) × (Int × Int × List ((Int × Int) × List (Int × Int)) × Unit) × Unit × Unit) =>
                              br (x205.1.1 != x206.1.1)
                                (some
                                  ((false, ()), (), (), (), (), (), (), (),
                                    ()))
                                (br (x205.1.2.1 != x206.1.2.1)
                                  (some
                                    ((false, ()), (), (), (), (), (), (), (),
                                      ()))
                                  (bd
                                    (grd
                                      (staysS (((0 : Int), (0 : Int)), (7 : Int)) x204.1.1.1 x204.1.1.2 (cellsS x198.1.1) &&
                                        decide ((cellsS x198.1.1).length < (1000000 : Nat)))
                                      ((true, ()), x204.1.1.1, (), ()))
                                    fun (x207 : (Bool × Unit) × List ((Int × Int) × Int) × Unit × Unit) =>
                                    br (!x207.1.1)
                                      (some
                                        ((false, ()), (), (), (), (), (), (), (),
                                          ()))
                                      (bd
                                        (grd
                                          (likeB (x205.2.1.1, x205.2.1.2.1, x205.2.1.2.2.1, x205.2.1.2.2.2.1, ())
                                            (x206.2.1.1, x206.2.1.2.1, x206.2.1.2.2.1, ()))
                                          ((true, ()), (x205.2.1.1, x205.2.1.2.1, x205.2.1.2.2.1, x205.2.1.2.2.2.1, ()), (),
                                            (), (), ()))
                                        fun
                                          (x208 :
                                            (Bool × Unit) ×
                                              (Int × Int × Int × List ((Int × Int) × List (Int × Int)) × Unit) × Unit × Unit × Unit × Unit) =>
                                        br (!x208.1.1)
                                          (some
                                            ((false, ()), (), (), (), (), (), (), (),
                                              ()))
                                          (rec188
                                            (y190, y191, y192, (x208.2.1.1, x208.2.1.2.1, x208.2.1.2.2.1, x208.2.1.2.2.2.1, ()),
                                              (x206.2.1.1, x206.2.1.2.1, x206.2.1.2.2.1, ()), IntKind.i64.wrap (y195 + (1 : Int)),
                                              ())))))))
                      none)
                  (br (x197.1.1 == (1 : Int))
                    (bd
                      (grd (decide (y190.length ≤ (100000 : Nat)))
                        ((List.take ((1 : Nat) + y190.length % (4 : Nat)) (List.drop (x196.1.1 % ((↑y190.length : Int) + (1 : Int))).toNat y190),
                            ()),
                          (), (), ()))
                      fun (x209 : (List Int × Unit) × Unit × Unit × Unit) =>
                      br (!false)
                        (br (x196.1.1.tmod (11 : Int) == (0 : Int))
                          (bd
                            (grd (decide (y191.length < (1000000 : Nat)))
                              (((lentS (((0 : Int), (0 : Int)), (7 : Int)) y191, y191.length), ()), (), ()))
                            fun (x210 : ((List ((Int × Int) × Int) × Nat) × Unit) × Unit × Unit) =>
                            bd
                              (grd
                                (stoOk (y193.1, y193.2.1, y193.2.2.1, y193.2.2.2.1, ()) &&
                                  lenOk (List.take x210.1.1.2 (List.drop (0 : Nat) x210.1.1.1)))
                                (((instS (y193.1, y193.2.1, y193.2.2.1, y193.2.2.2.1, ())
                                          (List.take x210.1.1.2 (List.drop (0 : Nat) x210.1.1.1))).1.1,
                                    (instS (y193.1, y193.2.1, y193.2.2.1, y193.2.2.2.1, ())
                                          (List.take x210.1.1.2 (List.drop (0 : Nat) x210.1.1.1))).1.2,
                                    ()),
                                  (instS (y193.1, y193.2.1, y193.2.2.1, y193.2.2.2.1, ())
                                      (List.take x210.1.1.2 (List.drop (0 : Nat) x210.1.1.1))).2,
                                  (), ()))
                              fun (x211 : (Int × Int × Unit) × (Int × Int × Int × List ((Int × Int) × List (Int × Int)) × Unit) × Unit × Unit) =>
                              bd
                                (grd (refOk (y194.1, y194.2.1, y194.2.2.1, ()) && (lenOk y191 && decide (y191.length ≤ (100000 : Nat))))
                                  (((rinstS (y194.1, y194.2.1, y194.2.2.1, ()) y191).1.1,
                                      (rinstS (y194.1, y194.2.1, y194.2.2.1, ()) y191).1.2, ()),
                                    (rinstS (y194.1, y194.2.1, y194.2.2.1, ()) y191).2, (), ()))
                                fun (x212 : (Int × Int × Unit) × (Int × Int × List ((Int × Int) × List (Int × Int)) × Unit) × Unit × Unit) =>
                                br (x211.1.1 != x212.1.1)
                                  (some
                                    ((false, ()), (), (), (), (), (), (), (),
                                      ()))
                                  (br (x211.1.2.1 != x212.1.2.1)
                                    (some
                                      ((false, ()), (), (), (), (), (), (), (),
                                        ()))
                                    (bd
                                      (grd
                                        (staysS (((0 : Int), (0 : Int)), (7 : Int)) x210.1.1.1 x210.1.1.2 y191 &&
                                          decide (y191.length < (1000000 : Nat)))
                                        ((true, ()), x210.1.1.1, (), ()))
                                      fun (x213 : (Bool × Unit) × List ((Int × Int) × Int) × Unit × Unit) =>
                                      br (!x213.1.1)
                                        (some
                                          ((false, ()), (), (), (), (), (), (), (),
                                            ()))
                                        (bd
                                          (grd
                                            (likeB (x211.2.1.1, x211.2.1.2.1, x211.2.1.2.2.1, x211.2.1.2.2.2.1, ())
                                              (x212.2.1.1, x212.2.1.2.1, x212.2.1.2.2.1, ()))
                                            ((true, ()), (x211.2.1.1, x211.2.1.2.1, x211.2.1.2.2.1, x211.2.1.2.2.2.1, ()), (),
                                              (), (), ()))
                                          fun
                                            (x214 :
                                              (Bool × Unit) ×
                                                (Int × Int × Int × List ((Int × Int) × List (Int × Int)) × Unit) × Unit × Unit × Unit × Unit) =>
                                          br (!x214.1.1)
                                            (some
                                              ((false, ()), (), (), (), (), (), (),
                                                (), ()))
                                            (rec188
                                              (y190, y191, y192, (x214.2.1.1, x214.2.1.2.1, x214.2.1.2.2.1, x214.2.1.2.2.2.1, ()),
                                                (x212.2.1.1, x212.2.1.2.1, x212.2.1.2.2.1, ()), IntKind.i64.wrap (y195 + (1 : Int)),
                                                ()))))))
                          (bd
                            (grd (decide ((cellsS x209.1.1).length < (1000000 : Nat)))
                              (((lentS (((0 : Int), (0 : Int)), (7 : Int)) (cellsS x209.1.1), (cellsS x209.1.1).length), ()), (),
                                ()))
                            fun (x215 : ((List ((Int × Int) × Int) × Nat) × Unit) × Unit × Unit) =>
                            bd
                              (grd
                                (stoOk (y193.1, y193.2.1, y193.2.2.1, y193.2.2.2.1, ()) &&
                                  lenOk (List.take x215.1.1.2 (List.drop (0 : Nat) x215.1.1.1)))
                                (((instS (y193.1, y193.2.1, y193.2.2.1, y193.2.2.2.1, ())
                                          (List.take x215.1.1.2 (List.drop (0 : Nat) x215.1.1.1))).1.1,
                                    (instS (y193.1, y193.2.1, y193.2.2.1, y193.2.2.2.1, ())
                                          (List.take x215.1.1.2 (List.drop (0 : Nat) x215.1.1.1))).1.2,
                                    ()),
                                  (instS (y193.1, y193.2.1, y193.2.2.1, y193.2.2.2.1, ())
                                      (List.take x215.1.1.2 (List.drop (0 : Nat) x215.1.1.1))).2,
                                  (), ()))
                              fun (x216 : (Int × Int × Unit) × (Int × Int × Int × List ((Int × Int) × List (Int × Int)) × Unit) × Unit × Unit) =>
                              bd
                                (grd
                                  (refOk (y194.1, y194.2.1, y194.2.2.1, ()) &&
                                    (lenOk (cellsS x209.1.1) && decide ((cellsS x209.1.1).length ≤ (100000 : Nat))))
                                  (((rinstS (y194.1, y194.2.1, y194.2.2.1, ()) (cellsS x209.1.1)).1.1,
                                      (rinstS (y194.1, y194.2.1, y194.2.2.1, ()) (cellsS x209.1.1)).1.2, ()),
                                    (rinstS (y194.1, y194.2.1, y194.2.2.1, ()) (cellsS x209.1.1)).2, (), ()))
                                fun (x217 : (Int × Int × Unit) × (Int × Int × List ((Int × Int) × List (Int × Int)) × Unit) × Unit × Unit) =>
                                br (x216.1.1 != x217.1.1)
                                  (some
                                    ((false, ()), (), (), (), (), (), (), (),
                                      ()))
                                  (br (x216.1.2.1 != x217.1.2.1)
                                    (some
                                      ((false, ()), (), (), (), (), (), (), (),
                                        ()))
                                    (bd
                                      (grd
                                        (staysS (((0 : Int), (0 : Int)), (7 : Int)) x215.1.1.1 x215.1.1.2 (cellsS x209.1.1) &&
                                          decide ((cellsS x209.1.1).length < (1000000 : Nat)))
                                        ((true, ()), x215.1.1.1, (), ()))
                                      fun (x218 : (Bool × Unit) × List ((Int × Int) × Int) × Unit × Unit) =>
                                      br (!x218.1.1)
                                        (some
                                          ((false, ()), (), (), (), (), (), (), (),
                                            ()))
                                        (bd
                                          (grd
                                            (likeB (x216.2.1.1, x216.2.1.2.1, x216.2.1.2.2.1, x216.2.1.2.2.2.1, ())
                                              (x217.2.1.1, x217.2.1.2.1, x217.2.1.2.2.1, ()))
                                            ((true, ()), (x216.2.1.1, x216.2.1.2.1, x216.2.1.2.2.1, x216.2.1.2.2.2.1, ()), (),
                                              (), (), ()))
                                          fun
                                            (x219 :
                                              (Bool × Unit) ×
                                                (Int × Int × Int × List ((Int × Int) × List (Int × Int)) × Unit) × Unit × Unit × Unit × Unit) =>
                                          br (!x219.1.1)
                                            (some
                                              ((false, ()), (), (), (), (), (), (),
                                                (), ()))
                                            (rec188
                                              (y190, y191, y192, (x219.2.1.1, x219.2.1.2.1, x219.2.1.2.2.1, x219.2.1.2.2.2.1, ()),
                                                (x217.2.1.1, x217.2.1.2.1, x217.2.1.2.2.1, ()), IntKind.i64.wrap (y195 + (1 : Int)),
                                                ())))))))
                        none)
                    (br (x197.1.1 == (2 : Int))
                      (bd
                        (grd (decide (y190.length ≤ (100000 : Nat)))
                          ((List.take ((1 : Nat) + y190.length % (4 : Nat)) (List.drop (x196.1.1 % ((↑y190.length : Int) + (1 : Int))).toNat y190),
                              ()),
                            (), (), ()))
                        fun (x220 : (List Int × Unit) × Unit × Unit × Unit) =>
                        br (!false)
                          (br (x196.1.1.tmod (11 : Int) == (0 : Int))
                            (bd
                              (grd (decide (y191.length < (1000000 : Nat)))
                                (((lentS (((0 : Int), (0 : Int)), (7 : Int)) y191, y191.length), ()), (), ()))
                              fun (x221 : ((List ((Int × Int) × Int) × Nat) × Unit) × Unit × Unit) =>
                              bd
                                (grd
                                  (stoOk (y193.1, y193.2.1, y193.2.2.1, y193.2.2.2.1, ()) &&
                                    lenOk (List.take x221.1.1.2 (List.drop (0 : Nat) x221.1.1.1)))
                                  (((instS (y193.1, y193.2.1, y193.2.2.1, y193.2.2.2.1, ())
                                            (List.take x221.1.1.2 (List.drop (0 : Nat) x221.1.1.1))).1.1,
                                      (instS (y193.1, y193.2.1, y193.2.2.1, y193.2.2.2.1, ())
                                            (List.take x221.1.1.2 (List.drop (0 : Nat) x221.1.1.1))).1.2,
                                      ()),
                                    (instS (y193.1, y193.2.1, y193.2.2.1, y193.2.2.2.1, ())
                                        (List.take x221.1.1.2 (List.drop (0 : Nat) x221.1.1.1))).2,
                                    (), ()))
                                fun
                                  (x222 : (Int × Int × Unit) × (Int × Int × Int × List ((Int × Int) × List (Int × Int)) × Unit) × Unit × Unit) =>
                                bd
                                  (grd (refOk (y194.1, y194.2.1, y194.2.2.1, ()) && (lenOk y191 && decide (y191.length ≤ (100000 : Nat))))
                                    (((rinstS (y194.1, y194.2.1, y194.2.2.1, ()) y191).1.1,
                                        (rinstS (y194.1, y194.2.1, y194.2.2.1, ()) y191).1.2, ()),
                                      (rinstS (y194.1, y194.2.1, y194.2.2.1, ()) y191).2, (), ()))
                                  fun (x223 : (Int × Int × Unit) × (Int × Int × List ((Int × Int) × List (Int × Int)) × Unit) × Unit × Unit) =>
                                  br (x222.1.1 != x223.1.1)
                                    (some
                                      ((false, ()), (), (), (), (), (), (), (),
                                        ()))
                                    (br (x222.1.2.1 != x223.1.2.1)
                                      (some
                                        ((false, ()), (), (), (), (), (), (), (),
                                          ()))
                                      (bd
                                        (grd
                                          (staysS (((0 : Int), (0 : Int)), (7 : Int)) x221.1.1.1 x221.1.1.2 y191 &&
                                            decide (y191.length < (1000000 : Nat)))
                                          ((true, ()), x221.1.1.1, (), ()))
                                        fun (x224 : (Bool × Unit) × List ((Int × Int) × Int) × Unit × Unit) =>
                                        br (!x224.1.1)
                                          (some
                                            ((false, ()), (), (), (), (), (), (), (),
                                              ()))
                                          (bd
                                            (grd
                                              (likeB (x222.2.1.1, x222.2.1.2.1, x222.2.1.2.2.1, x222.2.1.2.2.2.1, ())
                                                (x223.2.1.1, x223.2.1.2.1, x223.2.1.2.2.1, ()))
                                              ((true, ()), (x222.2.1.1, x222.2.1.2.1, x222.2.1.2.2.1, x222.2.1.2.2.2.1, ()),
                                                (), (), (), ()))
                                            fun
                                              (x225 :
                                                (Bool × Unit) ×
                                                  (Int × Int × Int × List ((Int × Int) × List (Int × Int)) × Unit) ×
                                                    Unit × Unit × Unit × Unit) =>
                                            br (!x225.1.1)
                                              (some
                                                ((false, ()), (), (), (), (), (), (),
                                                  (), ()))
                                              (rec188
                                                (y190, y191, y192, (x225.2.1.1, x225.2.1.2.1, x225.2.1.2.2.1, x225.2.1.2.2.2.1, ()),
                                                  (x223.2.1.1, x223.2.1.2.1, x223.2.1.2.2.1, ()), IntKind.i64.wrap (y195 + (1 : Int)),
                                                  ()))))))
                            (bd
                              (grd (decide ((cellsS x220.1.1).length < (1000000 : Nat)))
                                (((lentS (((0 : Int), (0 : Int)), (7 : Int)) (cellsS x220.1.1), (cellsS x220.1.1).length), ()), (),
                                  ()))
                              fun (x226 : ((List ((Int × Int) × Int) × Nat) × Unit) × Unit × Unit) =>
                              bd
                                (grd
                                  (stoOk (y193.1, y193.2.1, y193.2.2.1, y193.2.2.2.1, ()) &&
                                    lenOk (List.take x226.1.1.2 (List.drop (0 : Nat) x226.1.1.1)))
                                  (((instS (y193.1, y193.2.1, y193.2.2.1, y193.2.2.2.1, ())
                                            (List.take x226.1.1.2 (List.drop (0 : Nat) x226.1.1.1))).1.1,
                                      (instS (y193.1, y193.2.1, y193.2.2.1, y193.2.2.2.1, ())
                                            (List.take x226.1.1.2 (List.drop (0 : Nat) x226.1.1.1))).1.2,
                                      ()),
                                    (instS (y193.1, y193.2.1, y193.2.2.1, y193.2.2.2.1, ())
                                        (List.take x226.1.1.2 (List.drop (0 : Nat) x226.1.1.1))).2,
                                    (), ()))
                                fun
                                  (x227 : (Int × Int × Unit) × (Int × Int × Int × List ((Int × Int) × List (Int × Int)) × Unit) × Unit × Unit) =>
                                bd
                                  (grd
                                    (refOk (y194.1, y194.2.1, y194.2.2.1, ()) &&
                                      (lenOk (cellsS x220.1.1) && decide ((cellsS x220.1.1).length ≤ (100000 : Nat))))
                                    (((rinstS (y194.1, y194.2.1, y194.2.2.1, ()) (cellsS x220.1.1)).1.1,
                                        (rinstS (y194.1, y194.2.1, y194.2.2.1, ()) (cellsS x220.1.1)).1.2, ()),
                                      (rinstS (y194.1, y194.2.1, y194.2.2.1, ()) (cellsS x220.1.1)).2, (), ()))
                                  fun (x228 : (Int × Int × Unit) × (Int × Int × List ((Int × Int) × List (Int × Int)) × Unit) × Unit × Unit) =>
                                  br (x227.1.1 != x228.1.1)
                                    (some
                                      ((false, ()), (), (), (), (), (), (), (),
                                        ()))
                                    (br (x227.1.2.1 != x228.1.2.1)
                                      (some
                                        ((false, ()), (), (), (), (), (), (), (),
                                          ()))
                                      (bd
                                        (grd
                                          (staysS (((0 : Int), (0 : Int)), (7 : Int)) x226.1.1.1 x226.1.1.2 (cellsS x220.1.1) &&
                                            decide ((cellsS x220.1.1).length < (1000000 : Nat)))
                                          ((true, ()), x226.1.1.1, (), ()))
                                        fun (x229 : (Bool × Unit) × List ((Int × Int) × Int) × Unit × Unit) =>
                                        br (!x229.1.1)
                                          (some
                                            ((false, ()), (), (), (), (), (), (), (),
                                              ()))
                                          (bd
                                            (grd
                                              (likeB (x227.2.1.1, x227.2.1.2.1, x227.2.1.2.2.1, x227.2.1.2.2.2.1, ())
                                                (x228.2.1.1, x228.2.1.2.1, x228.2.1.2.2.1, ()))
                                              ((true, ()), (x227.2.1.1, x227.2.1.2.1, x227.2.1.2.2.1, x227.2.1.2.2.2.1, ()),
                                                (), (), (), ()))
                                            fun
                                              (x230 :
                                                (Bool × Unit) ×
                                                  (Int × Int × Int × List ((Int × Int) × List (Int × Int)) × Unit) ×
                                                    Unit × Unit × Unit × Unit) =>
                                            br (!x230.1.1)
                                              (some
                                                ((false, ()), (), (), (), (), (), (),
                                                  (), ()))
                                              (rec188
                                                (y190, y191, y192, (x230.2.1.1, x230.2.1.2.1, x230.2.1.2.2.1, x230.2.1.2.2.2.1, ()),
                                                  (x228.2.1.1, x228.2.1.2.1, x228.2.1.2.2.1, ()), IntKind.i64.wrap (y195 + (1 : Int)),
                                                  ())))))))
                          none)
                      (br (x197.1.1 == (3 : Int))
                        (bd
                          (grd (decide (y190.length ≤ (100000 : Nat)))
                            ((List.take ((1 : Nat) + y190.length % (4 : Nat)) (List.drop (x196.1.1 % ((↑y190.length : Int) + (1 : Int))).toNat y190),
                                ()),
                              (), (), ()))
                          fun (x231 : (List Int × Unit) × Unit × Unit × Unit) =>
                          br (!false)
                            (br (x196.1.1.tmod (11 : Int) == (0 : Int))
                              (bd
                                (grd (decide (y191.length < (1000000 : Nat)))
                                  (((lentS (((0 : Int), (0 : Int)), (7 : Int)) y191, y191.length), ()), (), ()))
                                fun (x232 : ((List ((Int × Int) × Int) × Nat) × Unit) × Unit × Unit) =>
                                bd
                                  (grd
                                    (stoOk (y193.1, y193.2.1, y193.2.2.1, y193.2.2.2.1, ()) &&
                                      lenOk (List.take x232.1.1.2 (List.drop (0 : Nat) x232.1.1.1)))
                                    (((instS (y193.1, y193.2.1, y193.2.2.1, y193.2.2.2.1, ())
                                              (List.take x232.1.1.2 (List.drop (0 : Nat) x232.1.1.1))).1.1,
                                        (instS (y193.1, y193.2.1, y193.2.2.1, y193.2.2.2.1, ())
                                              (List.take x232.1.1.2 (List.drop (0 : Nat) x232.1.1.1))).1.2,
                                        ()),
                                      (instS (y193.1, y193.2.1, y193.2.2.1, y193.2.2.2.1, ())
                                          (List.take x232.1.1.2 (List.drop (0 : Nat) x232.1.1.1))).2,
                                      (), ()))
                                  fun
                                    (x233 :
                                      (Int × Int × Unit) × (Int × Int × Int × List ((Int × Int) × List (Int × Int)) × Unit) × Unit × Unit) =>
                                  bd
                                    (grd (refOk (y194.1, y194.2.1, y194.2.2.1, ()) && (lenOk y191 && decide (y191.length ≤ (100000 : Nat))))
                                      (((rinstS (y194.1, y194.2.1, y194.2.2.1, ()) y191).1.1,
                                          (rinstS (y194.1, y194.2.1, y194.2.2.1, ()) y191).1.2, ()),
                                        (rinstS (y194.1, y194.2.1, y194.2.2.1, ()) y191).2, (), ()))
                                    fun (x234 : (Int × Int × Unit) × (Int × Int × List ((Int × Int) × List (Int × Int)) × Unit) × Unit × Unit) =>
                                    br (x233.1.1 != x234.1.1)
                                      (some
                                        ((false, ()), (), (), (), (), (), (), (),
                                          ()))
                                      (br (x233.1.2.1 != x234.1.2.1)
                                        (some
                                          ((false, ()), (), (), (), (), (), (), (),
                                            ()))
                                        (bd
                                          (grd
                                            (staysS (((0 : Int), (0 : Int)), (7 : Int)) x232.1.1.1 x232.1.1.2 y191 &&
                                              decide (y191.length < (1000000 : Nat)))
                                            ((true, ()), x232.1.1.1, (), ()))
                                          fun (x235 : (Bool × Unit) × List ((Int × Int) × Int) × Unit × Unit) =>
                                          br (!x235.1.1)
                                            (some
                                              ((false, ()), (), (), (), (), (), (),
                                                (), ()))
                                            (bd
                                              (grd
                                                (likeB (x233.2.1.1, x233.2.1.2.1, x233.2.1.2.2.1, x233.2.1.2.2.2.1, ())
                                                  (x234.2.1.1, x234.2.1.2.1, x234.2.1.2.2.1, ()))
                                                ((true, ()), (x233.2.1.1, x233.2.1.2.1, x233.2.1.2.2.1, x233.2.1.2.2.2.1, ()),
                                                  (), (), (), ()))
                                              fun
                                                (x236 :
                                                  (Bool × Unit) ×
                                                    (Int × Int × Int × List ((Int × Int) × List (Int × Int)) × Unit) ×
                                                      Unit × Unit × Unit × Unit) =>
                                              br (!x236.1.1)
                                                (some
                                                  ((false, ()), (), (), (), (), (), (),
                                                    (), ()))
                                                (rec188
                                                  (y190, y191, y192, (x236.2.1.1, x236.2.1.2.1, x236.2.1.2.2.1, x236.2.1.2.2.2.1, ()),
                                                    (x234.2.1.1, x234.2.1.2.1, x234.2.1.2.2.1, ()), IntKind.i64.wrap (y195 + (1 : Int)),
                                                    ()))))))
                              (bd
                                (grd (decide ((cellsS x231.1.1).length < (1000000 : Nat)))
                                  (((lentS (((0 : Int), (0 : Int)), (7 : Int)) (cellsS x231.1.1), (cellsS x231.1.1).length), ()), (),
                                    ()))
                                fun (x237 : ((List ((Int × Int) × Int) × Nat) × Unit) × Unit × Unit) =>
                                bd
                                  (grd
                                    (stoOk (y193.1, y193.2.1, y193.2.2.1, y193.2.2.2.1, ()) &&
                                      lenOk (List.take x237.1.1.2 (List.drop (0 : Nat) x237.1.1.1)))
                                    (((instS (y193.1, y193.2.1, y193.2.2.1, y193.2.2.2.1, ())
                                              (List.take x237.1.1.2 (List.drop (0 : Nat) x237.1.1.1))).1.1,
                                        (instS (y193.1, y193.2.1, y193.2.2.1, y193.2.2.2.1, ())
                                              (List.take x237.1.1.2 (List.drop (0 : Nat) x237.1.1.1))).1.2,
                                        ()),
                                      (instS (y193.1, y193.2.1, y193.2.2.1, y193.2.2.2.1, ())
                                          (List.take x237.1.1.2 (List.drop (0 : Nat) x237.1.1.1))).2,
                                      (), ()))
                                  fun
                                    (x238 :
                                      (Int × Int × Unit) × (Int × Int × Int × List ((Int × Int) × List (Int × Int)) × Unit) × Unit × Unit) =>
                                  bd
                                    (grd
                                      (refOk (y194.1, y194.2.1, y194.2.2.1, ()) &&
                                        (lenOk (cellsS x231.1.1) && decide ((cellsS x231.1.1).length ≤ (100000 : Nat))))
                                      (((rinstS (y194.1, y194.2.1, y194.2.2.1, ()) (cellsS x231.1.1)).1.1,
                                          (rinstS (y194.1, y194.2.1, y194.2.2.1, ()) (cellsS x231.1.1)).1.2, ()),
                                        (rinstS (y194.1, y194.2.1, y194.2.2.1, ()) (cellsS x231.1.1)).2, (), ()))
                                    fun (x239 : (Int × Int × Unit) × (Int × Int × List ((Int × Int) × List (Int × Int)) × Unit) × Unit × Unit) =>
                                    br (x238.1.1 != x239.1.1)
                                      (some
                                        ((false, ()), (), (), (), (), (), (), (),
                                          ()))
                                      (br (x238.1.2.1 != x239.1.2.1)
                                        (some
                                          ((false, ()), (), (), (), (), (), (), (),
                                            ()))
                                        (bd
                                          (grd
                                            (staysS (((0 : Int), (0 : Int)), (7 : Int)) x237.1.1.1 x237.1.1.2 (cellsS x231.1.1) &&
                                              decide ((cellsS x231.1.1).length < (1000000 : Nat)))
                                            ((true, ()), x237.1.1.1, (), ()))
                                          fun (x240 : (Bool × Unit) × List ((Int × Int) × Int) × Unit × Unit) =>
                                          br (!x240.1.1)
                                            (some
                                              ((false, ()), (), (), (), (), (), (),
                                                (), ()))
                                            (bd
                                              (grd
                                                (likeB (x238.2.1.1, x238.2.1.2.1, x238.2.1.2.2.1, x238.2.1.2.2.2.1, ())
                                                  (x239.2.1.1, x239.2.1.2.1, x239.2.1.2.2.1, ()))
                                                ((true, ()), (x238.2.1.1, x238.2.1.2.1, x238.2.1.2.2.1, x238.2.1.2.2.2.1, ()),
                                                  (), (), (), ()))
                                              fun
                                                (x241 :
                                                  (Bool × Unit) ×
                                                    (Int × Int × Int × List ((Int × Int) × List (Int × Int)) × Unit) ×
                                                      Unit × Unit × Unit × Unit) =>
                                              br (!x241.1.1)
                                                (some
                                                  ((false, ()), (), (), (), (), (), (),
                                                    (), ()))
                                                (rec188
                                                  (y190, y191, y192, (x241.2.1.1, x241.2.1.2.1, x241.2.1.2.2.1, x241.2.1.2.2.2.1, ()),
                                                    (x239.2.1.1, x239.2.1.2.1, x239.2.1.2.2.1, ()), IntKind.i64.wrap (y195 + (1 : Int)),
                                                    ())))))))
                            none)
                        (br (x197.1.1 == (4 : Int))
                          (bd
                            (grd (stoOk (y193.1, y193.2.1, y193.2.2.1, y193.2.2.2.1, ()) && nodM y193.2.2.2.1)
                              ((goneM (IntKind.u64.wrap (y194.1 - IntKind.u64.wrap (x196.1.1.tmod (7 : Int)))) y193.2.2.2.1, ()),
                                gcS (y193.1, y193.2.1, y193.2.2.1, y193.2.2.2.1, ())
                                  (IntKind.u64.wrap (y194.1 - IntKind.u64.wrap (x196.1.1.tmod (7 : Int)))),
                                (), ()))
                            fun (x242 : (Int × Unit) × (Int × Int × Int × List ((Int × Int) × List (Int × Int)) × Unit) × Unit × Unit) =>
                            bd
                              (grd (refOk (y194.1, y194.2.1, y194.2.2.1, ()))
                                ((goneM (IntKind.u64.wrap (y194.1 - IntKind.u64.wrap (x196.1.1.tmod (7 : Int)))) y194.2.2.1, ()),
                                  rgcS (y194.1, y194.2.1, y194.2.2.1, ())
                                    (IntKind.u64.wrap (y194.1 - IntKind.u64.wrap (x196.1.1.tmod (7 : Int)))),
                                  (), ()))
                              fun (x243 : (Int × Unit) × (Int × Int × List ((Int × Int) × List (Int × Int)) × Unit) × Unit × Unit) =>
                              br (x242.1.1 != x243.1.1)
                                (some
                                  ((false, ()), (), (), (), (), (), (), (),
                                    ()))
                                (bd
                                  (grd
                                    (likeB (x242.2.1.1, x242.2.1.2.1, x242.2.1.2.2.1, x242.2.1.2.2.2.1, ())
                                      (x243.2.1.1, x243.2.1.2.1, x243.2.1.2.2.1, ()))
                                    ((true, ()), (x242.2.1.1, x242.2.1.2.1, x242.2.1.2.2.1, x242.2.1.2.2.2.1, ()), (),
                                      (), (), ()))
                                  fun
                                    (x244 :
                                      (Bool × Unit) ×
                                        (Int × Int × Int × List ((Int × Int) × List (Int × Int)) × Unit) × Unit × Unit × Unit × Unit) =>
                                  br (!x244.1.1)
                                    (some
                                      ((false, ()), (), (), (), (), (), (), (),
                                        ()))
                                    (rec188
                                      (y190, y191, y192, (x244.2.1.1, x244.2.1.2.1, x244.2.1.2.2.1, x244.2.1.2.2.2.1, ()),
                                        (x243.2.1.1, x243.2.1.2.1, x243.2.1.2.2.1, ()), IntKind.i64.wrap (y195 + (1 : Int)), ()))))
                          (br (x197.1.1 == (5 : Int))
                            (bd
                              (grd (stoOk (y193.1, y193.2.1, y193.2.2.1, y193.2.2.2.1, ()) && nodM y193.2.2.2.1)
                                ((goneM (IntKind.u64.wrap (y194.1 - IntKind.u64.wrap (x196.1.1.tmod (7 : Int)))) y193.2.2.2.1, ()),
                                  gcS (y193.1, y193.2.1, y193.2.2.1, y193.2.2.2.1, ())
                                    (IntKind.u64.wrap (y194.1 - IntKind.u64.wrap (x196.1.1.tmod (7 : Int)))),
                                  (), ()))
                              fun (x245 : (Int × Unit) × (Int × Int × Int × List ((Int × Int) × List (Int × Int)) × Unit) × Unit × Unit) =>
                              bd
                                (grd (refOk (y194.1, y194.2.1, y194.2.2.1, ()))
                                  ((goneM (IntKind.u64.wrap (y194.1 - IntKind.u64.wrap (x196.1.1.tmod (7 : Int)))) y194.2.2.1, ()),
                                    rgcS (y194.1, y194.2.1, y194.2.2.1, ())
                                      (IntKind.u64.wrap (y194.1 - IntKind.u64.wrap (x196.1.1.tmod (7 : Int)))),
                                    (), ()))
                                fun (x246 : (Int × Unit) × (Int × Int × List ((Int × Int) × List (Int × Int)) × Unit) × Unit × Unit) =>
                                br (x245.1.1 != x246.1.1)
                                  (some
                                    ((false, ()), (), (), (), (), (), (), (),
                                      ()))
                                  (bd
                                    (grd
                                      (likeB (x245.2.1.1, x245.2.1.2.1, x245.2.1.2.2.1, x245.2.1.2.2.2.1, ())
                                        (x246.2.1.1, x246.2.1.2.1, x246.2.1.2.2.1, ()))
                                      ((true, ()), (x245.2.1.1, x245.2.1.2.1, x245.2.1.2.2.1, x245.2.1.2.2.2.1, ()), (),
                                        (), (), ()))
                                    fun
                                      (x247 :
                                        (Bool × Unit) ×
                                          (Int × Int × Int × List ((Int × Int) × List (Int × Int)) × Unit) × Unit × Unit × Unit × Unit) =>
                                    br (!x247.1.1)
                                      (some
                                        ((false, ()), (), (), (), (), (), (), (),
                                          ()))
                                      (rec188
                                        (y190, y191, y192, (x247.2.1.1, x247.2.1.2.1, x247.2.1.2.2.1, x247.2.1.2.2.2.1, ()),
                                          (x246.2.1.1, x246.2.1.2.1, x246.2.1.2.2.1, ()), IntKind.i64.wrap (y195 + (1 : Int)), ()))))
                            (bd
                              (grd (likeB (y193.1, y193.2.1, y193.2.2.1, y193.2.2.2.1, ()) (y194.1, y194.2.1, y194.2.2.1, ()))
                                ((true, ()), (y193.1, y193.2.1, y193.2.2.1, y193.2.2.2.1, ()), (), (), (),
                                  ()))
                              fun
                                (x248 :
                                  (Bool × Unit) ×
                                    (Int × Int × Int × List ((Int × Int) × List (Int × Int)) × Unit) × Unit × Unit × Unit × Unit) =>
                              br (!x248.1.1)
                                (some
                                  ((false, ()), (), (), (), (), (), (), (),
                                    ()))
                                (rec188
                                  (y190, y191, y192, (x248.2.1.1, x248.2.1.2.1, x248.2.1.2.2.1, x248.2.1.2.2.2.1, ()),
                                    (y194.1, y194.2.1, y194.2.2.1, ()), IntKind.i64.wrap (y195 + (1 : Int)), ())))))))))
              none)
            none)
          none)
      none)
    none)
  (bd
    (grd (likeB (y193.1, y193.2.1, y193.2.2.1, y193.2.2.2.1, ()) (y194.1, y194.2.1, y194.2.2.1, ()))
      ((true, ()), (y193.1, y193.2.1, y193.2.2.1, y193.2.2.2.1, ()), (), (), (), ()))
    fun (x249 : (Bool × Unit) × (Int × Int × Int × List ((Int × Int) × List (Int × Int)) × Unit) × Unit × Unit × Unit × Unit) =>
    some ((x249.1.1, ()), (), (), (), (), (), (), (), ()))
def lStorePlays_P (K : Nat) (a0 : Int) (a1 : Bool) (a2 : Int) (a3 : Bool) (a4 : List
  Int) (a5 : List ((Int × Int) × Int)) (a6 : List Int) : Option ((Bool × Unit) × Unit × Unit × Unit × Unit × Unit × Unit × Unit × Unit) :=
  br (decide ((↑a4.length : Int) > (60 : Int)))
  (some ((true, ()), (), (), (), (), (), (), (), ()))
  (br (decide ((↑a5.length : Int) > (20 : Int)))
    (some ((true, ()), (), (), (), (), (), (), (), ()))
    (br (decide ((↑a6.length : Int) > (40 : Int)))
      (some ((true, ()), (), (), (), (), (), (), (), ()))
      (br (!true) (some ((true, ()), (), (), (), (), (), (), (), ()))
        (br a3
          (bd (grd (true && decide ((100 : Int) < (4611686018427387904 : Int))) ((a2 % (100 : Int), ()), (), (), ()))
            fun (x1 : (Int × Unit) × Unit × Unit × Unit) =>
            br a1
              (br (!false)
                (loopN lStorePlays_L1 K
                  (a4, a5, a6,
                    ((stNewS (IntKind.u64.wrap ((18446744073709551615 : Int) - a0.tmod (40 : Int))) x1.1.1).1,
                      (stNewS (IntKind.u64.wrap ((18446744073709551615 : Int) - a0.tmod (40 : Int))) x1.1.1).2.1,
                      (stNewS (IntKind.u64.wrap ((18446744073709551615 : Int) - a0.tmod (40 : Int))) x1.1.1).2.2.1,
                      (stNewS (IntKind.u64.wrap ((18446744073709551615 : Int) - a0.tmod (40 : Int))) x1.1.1).2.2.2.1, ()),
                    ((rstNewS (IntKind.u64.wrap ((18446744073709551615 : Int) - a0.tmod (40 : Int))) x1.1.1).1,
                      (rstNewS (IntKind.u64.wrap ((18446744073709551615 : Int) - a0.tmod (40 : Int))) x1.1.1).2.1,
                      (rstNewS (IntKind.u64.wrap ((18446744073709551615 : Int) - a0.tmod (40 : Int))) x1.1.1).2.2.1, ()),
                    (0 : Int), ()))
                none)
              (loopN lStorePlays_L2 K
                (a4, a5, a6, ((stNewS a0 x1.1.1).1, (stNewS a0 x1.1.1).2.1, (stNewS a0 x1.1.1).2.2.1, (stNewS a0 x1.1.1).2.2.2.1, ()),
                  ((rstNewS a0 x1.1.1).1, (rstNewS a0 x1.1.1).2.1, (rstNewS a0 x1.1.1).2.2.1, ()), (0 : Int), ())))
          (br a1
            (br (!false)
              (loopN lStorePlays_L3 K
                (a4, a5, a6,
                  ((stNewS (IntKind.u64.wrap ((18446744073709551615 : Int) - a0.tmod (40 : Int))) a2).1,
                    (stNewS (IntKind.u64.wrap ((18446744073709551615 : Int) - a0.tmod (40 : Int))) a2).2.1,
                    (stNewS (IntKind.u64.wrap ((18446744073709551615 : Int) - a0.tmod (40 : Int))) a2).2.2.1,
                    (stNewS (IntKind.u64.wrap ((18446744073709551615 : Int) - a0.tmod (40 : Int))) a2).2.2.2.1, ()),
                  ((rstNewS (IntKind.u64.wrap ((18446744073709551615 : Int) - a0.tmod (40 : Int))) a2).1,
                    (rstNewS (IntKind.u64.wrap ((18446744073709551615 : Int) - a0.tmod (40 : Int))) a2).2.1,
                    (rstNewS (IntKind.u64.wrap ((18446744073709551615 : Int) - a0.tmod (40 : Int))) a2).2.2.1, ()),
                  (0 : Int), ()))
              none)
            (loopN lStorePlays_L4 K
              (a4, a5, a6, ((stNewS a0 a2).1, (stNewS a0 a2).2.1, (stNewS a0 a2).2.2.1, (stNewS a0 a2).2.2.2.1, ()),
                ((rstNewS a0 a2).1, (rstNewS a0 a2).2.1, (rstNewS a0 a2).2.2.1, ()), (0 : Int), ())))))))
theorem lStorePlays_rn (K : Nat) (a0 : Int) (a1 : Bool) (a2 : Int) (a3 : Bool) (a4 : List
  Int) (a5 : List
  ((Int × Int) ×
    Int)) (a6 : List
  Int) : runF (cfgW g_lStorePlays) K f_lStorePlays lStorePlays_tm [.val tU, .val .bool, .val tI, .val .bool, .val (.slice tI), .val (.slice tCell), .val (.slice tI)] [.val .bool] (a0, a1, a2, a3, a4, a5, a6, ()) = lStorePlays_P K a0 a1 a2 a3 a4 a5 a6 := by kernel_rfl
end
end Go.BB
