/- A symbolic machine for the model's code, and what it shows of this seat's functions. No conditions. -/
import Derived.Test.YtcdnkkakfkkpgaaQN
import Derived.Test.YtcdnkkakfkkpgaaQSRef
set_option linter.unusedSimpArgs false
set_option linter.unusedVariables false
namespace Go.BB
open Go Go.Proofs
set_option maxRecDepth 100000
set_option exponentiation.threshold 100000
noncomputable section
abbrev g_lStoreSpent : List (Nat × Ctr O0) := [(n_awake17, c_awake17), (n_cells, c_cells), (n_within, c_within), (n_stNew, c_stNew), (n_stInstall, c_stInstall), (n_stLast, c_stLast), (n_stVersions, c_stVersions), (n_stRead, c_stRead)]
def lStoreSpent_tm : List Tm := [[((5 : Nat), none, Sh.own (((Ty.int IntKind.i64).pair (Ty.int IntKind.i64)).pair (Ty.int IntKind.u16))),
    ((6 : Nat), none, Sh.val (Ty.int IntKind.i64)),
    ((7 : Nat), none,
      ((Sh.val (Ty.int IntKind.u64)).cons
          ((Sh.val (Ty.int IntKind.i64)).cons
            ((Sh.val (Ty.int IntKind.i64)).cons
              ((Sh.map (MapK.mapS ((Ty.int IntKind.i64).pair (Ty.int IntKind.i64)) ((Ty.int IntKind.u64).pair (Ty.int IntKind.u16)))).cons
                Sh.unit)))).ptr),
    ((8 : Nat), none, Sh.val (Ty.int IntKind.i64))]]
def lStoreSpent_L1 (rec2 : List ((Int × Int) × Int) × Int × (Int × Int × Int × List ((Int × Int) × List (Int × Int)) × Unit) × Int × Unit →
  Option
    ((Bool × Unit) ×
      Unit ×
        Unit ×
          Unit)) : List ((Int × Int) × Int) × Int × (Int × Int × Int × List ((Int × Int) × List (Int × Int)) × Unit) × Int × Unit →
  Option ((Bool × Unit) × Unit × Unit × Unit) := fun (y4, y5, y6, y7, ()) =>
  br (decide (y7 < y5))
  (bd
    (grd (stoOk (y6.1, y6.2.1, y6.2.2.1, y6.2.2.2.1, ()) && lenOk y4)
      (((instS (y6.1, y6.2.1, y6.2.2.1, y6.2.2.2.1, ()) y4).1.1, (instS (y6.1, y6.2.1, y6.2.2.1, y6.2.2.2.1, ()) y4).1.2, ()),
        (instS (y6.1, y6.2.1, y6.2.2.1, y6.2.2.2.1, ()) y4).2, (), ()))
    fun (x8 : (Int × Int × Unit) × (Int × Int × Int × List ((Int × Int) × List (Int × Int)) × Unit) × Unit × Unit) =>
    br (x8.1.2.1 != (0 : Int)) (some ((false, ()), (), (), ()))
      (rec2 (y4, y5, (x8.2.1.1, x8.2.1.2.1, x8.2.1.2.2.1, x8.2.1.2.2.2.1, ()), IntKind.i64.wrap (y7 + (1 : Int)), ())))
  (bd
    (grd (stoOk (y6.1, y6.2.1, y6.2.2.1, y6.2.2.2.1, ()) && lenOk y4)
      (((instS (y6.1, y6.2.1, y6.2.2.1, y6.2.2.2.1, ()) y4).1.1, (instS (y6.1, y6.2.1, y6.2.2.1, y6.2.2.2.1, ()) y4).1.2, ()),
        (instS (y6.1, y6.2.1, y6.2.2.1, y6.2.2.2.1, ()) y4).2, (), ()))
    fun (x9 : (Int × Int × Unit) × (Int × Int × Int × List ((Int × Int) × List (Int × Int)) × Unit) × Unit × Unit) =>
    br (x9.1.1 != (0 : Int)) (some ((false, ()), (), (), ()))
      (br (x9.1.2.1 != (8 : Int)) (some ((false, ()), (), (), ()))
        (br (x9.2.1.1 != (18446744073709551615 : Int)) (some ((false, ()), (), (), ()))
          (br (x9.2.1.2.1 != IntKind.i64.wrap (y5 * (↑y4.length : Int))) (some ((false, ()), (), (), ()))
            (br (decide ((0 : Int) < (↑y4.length : Int)))
              (br (y5 == (0 : Int))
                (br (decide ((0 : Int) < (↑y4.length : Int)))
                  (bd
                    (grd (stoOk (x9.2.1.1, x9.2.1.2.1, x9.2.1.2.2.1, x9.2.1.2.2.2.1, ()))
                      ((atV
                            (chnOf x9.2.1.2.2.2.1
                              ((y4.getD (Int.toNat (0 : Int)) (((0 : Int), (0 : Int)), (0 : Int))).1.1,
                                (y4.getD (Int.toNat (0 : Int)) (((0 : Int), (0 : Int)), (0 : Int))).1.2))
                            (18446744073709551615 : Int),
                          ()),
                        (x9.2.1.1, x9.2.1.2.1, x9.2.1.2.2.1, x9.2.1.2.2.2.1, ()), (), (), ()))
                    fun (x10 : (Int × Unit) × (Int × Int × Int × List ((Int × Int) × List (Int × Int)) × Unit) × Unit × Unit × Unit) =>
                    some ((x10.1.1 == (0 : Int), ()), (), (), ()))
                  none)
                (br (decide ((0 : Int) < (↑y4.length : Int)))
                  (bd
                    (grd (stoOk (x9.2.1.1, x9.2.1.2.1, x9.2.1.2.2.1, x9.2.1.2.2.2.1, ()))
                      ((atV
                            (chnOf x9.2.1.2.2.2.1
                              ((y4.getD (Int.toNat (0 : Int)) (((0 : Int), (0 : Int)), (0 : Int))).1.1,
                                (y4.getD (Int.toNat (0 : Int)) (((0 : Int), (0 : Int)), (0 : Int))).1.2))
                            (18446744073709551615 : Int),
                          ()),
                        (x9.2.1.1, x9.2.1.2.1, x9.2.1.2.2.1, x9.2.1.2.2.2.1, ()), (), (), ()))
                    fun (x11 : (Int × Unit) × (Int × Int × Int × List ((Int × Int) × List (Int × Int)) × Unit) × Unit × Unit × Unit) =>
                    some
                      ((x11.1.1 == (y4.getD (Int.toNat (0 : Int)) (((0 : Int), (0 : Int)), (0 : Int))).2, ()), (), (),
                        ()))
                  none))
              none)))))
def lStoreSpent_P (K : Nat) (a0 : List Int) (a1 : Int) : Option ((Bool × Unit) × Unit × Unit × Unit) :=
  br (decide ((↑a0.length : Int) > (20 : Int))) (some ((true, ()), (), (), ()))
  (br (!true) (some ((true, ()), (), (), ()))
    (bd (grd (true && decide ((5 : Int) < (4611686018427387904 : Int))) ((a1 % (5 : Int), ()), (), (), ()))
      fun (x1 : (Int × Unit) × Unit × Unit × Unit) =>
      br ((↑(cellsS a0).length : Int) == (0 : Int)) (some ((true, ()), (), (), ()))
        (loopN lStoreSpent_L1 K
          (cellsS a0, x1.1.1,
            ((stNewS (IntKind.u64.wrap ((18446744073709551615 : Int) - IntKind.u64.wrap x1.1.1)) (1000 : Int)).1,
              (stNewS (IntKind.u64.wrap ((18446744073709551615 : Int) - IntKind.u64.wrap x1.1.1)) (1000 : Int)).2.1,
              (stNewS (IntKind.u64.wrap ((18446744073709551615 : Int) - IntKind.u64.wrap x1.1.1)) (1000 : Int)).2.2.1,
              (stNewS (IntKind.u64.wrap ((18446744073709551615 : Int) - IntKind.u64.wrap x1.1.1)) (1000 : Int)).2.2.2.1, ()),
            (0 : Int), ()))))
theorem lStoreSpent_rn (K : Nat) (a0 : List
  Int) (a1 : Int) : runF (cfgW g_lStoreSpent) K f_lStoreSpent lStoreSpent_tm [.val (.slice tI), .val tI] [.val .bool] (a0, a1, ()) = lStoreSpent_P K a0 a1 := by kernel_rfl
abbrev g_lStoreWhole : List (Nat × Ctr O0) := [(n_awake17, c_awake17), (n_cells, c_cells), (n_stNew, c_stNew), (n_stInstall, c_stInstall), (n_stLast, c_stLast), (n_rbget, c_rbget), (n_stRead, c_stRead), (n_stNewest, c_stNewest), (n_stVersions, c_stVersions)]
def lStoreWhole_tm : List Tm := [[((5 : Nat), none,
      ((Sh.val (Ty.int IntKind.u64)).cons
          ((Sh.val (Ty.int IntKind.i64)).cons
            ((Sh.val (Ty.int IntKind.i64)).cons
              ((Sh.map (MapK.mapS ((Ty.int IntKind.i64).pair (Ty.int IntKind.i64)) ((Ty.int IntKind.u64).pair (Ty.int IntKind.u16)))).cons
                Sh.unit)))).ptr),
    ((6 : Nat), none, Sh.own (((Ty.int IntKind.i64).pair (Ty.int IntKind.i64)).pair (Ty.int IntKind.u16))),
    ((7 : Nat), none, Sh.own (((Ty.int IntKind.i64).pair (Ty.int IntKind.i64)).pair (Ty.int IntKind.u16))),
    ((10 : Nat), none, Sh.val (Ty.int IntKind.u64)), ((12 : Nat), none, Sh.val (Ty.int IntKind.u64)),
    ((13 : Nat), none, Sh.val (Ty.int IntKind.i64))],
  [((5 : Nat), none,
      ((Sh.val (Ty.int IntKind.u64)).cons
          ((Sh.val (Ty.int IntKind.i64)).cons
            ((Sh.val (Ty.int IntKind.i64)).cons
              ((Sh.map (MapK.mapS ((Ty.int IntKind.i64).pair (Ty.int IntKind.i64)) ((Ty.int IntKind.u64).pair (Ty.int IntKind.u16)))).cons
                Sh.unit)))).ptr),
    ((6 : Nat), none, Sh.own (((Ty.int IntKind.i64).pair (Ty.int IntKind.i64)).pair (Ty.int IntKind.u16))),
    ((7 : Nat), none, Sh.own (((Ty.int IntKind.i64).pair (Ty.int IntKind.i64)).pair (Ty.int IntKind.u16))),
    ((10 : Nat), none, Sh.val (Ty.int IntKind.u64)), ((12 : Nat), none, Sh.val (Ty.int IntKind.u64)),
    ((17 : Nat), none, Sh.val (Ty.int IntKind.i64))]]
def lStoreWhole_L1 (rec18 : (Int × Int × Int × List ((Int × Int) × List (Int × Int)) × Unit) ×
    List ((Int × Int) × Int) × List ((Int × Int) × Int) × Int × Int × Int × Unit →
  Option
    ((Bool × Unit) ×
      Unit ×
        Unit ×
          Unit)) : (Int × Int × Int × List ((Int × Int) × List (Int × Int)) × Unit) ×
    List ((Int × Int) × Int) × List ((Int × Int) × Int) × Int × Int × Int × Unit →
  Option ((Bool × Unit) × Unit × Unit × Unit) := fun (y20, y21, y22, y23, y24, y25, ()) =>
  br (decide (y25 < (↑y22.length : Int)))
  (br (decide ((0 : Int) ≤ y25))
    (br (decide (y25 < (↑y22.length : Int)))
      (bd
        (grd (lenOk y21 && bufS y21)
          (((getK y21 ((y22.getD y25.toNat (((0 : Int), (0 : Int)), (0 : Int))).1.1, (y22.getD y25.toNat (((0 : Int), (0 : Int)), (0 : Int))).1.2)).1,
              (getK y21
                  ((y22.getD y25.toNat (((0 : Int), (0 : Int)), (0 : Int))).1.1, (y22.getD y25.toNat (((0 : Int), (0 : Int)), (0 : Int))).1.2)).2,
              ()),
            (), (), ()))
        fun (x26 : (Int × Bool × Unit) × Unit × Unit × Unit) =>
        br (decide ((0 : Int) ≤ y25))
          (br (decide (y25 < (↑y22.length : Int)))
            (bd
              (grd (stoOk (y20.1, y20.2.1, y20.2.2.1, y20.2.2.2.1, ()))
                ((atV
                      (chnOf y20.2.2.2.1
                        ((y22.getD y25.toNat (((0 : Int), (0 : Int)), (0 : Int))).1.1, (y22.getD y25.toNat (((0 : Int), (0 : Int)), (0 : Int))).1.2))
                      y24,
                    ()),
                  (y20.1, y20.2.1, y20.2.2.1, y20.2.2.2.1, ()), (), (), ()))
              fun (x27 : (Int × Unit) × (Int × Int × Int × List ((Int × Int) × List (Int × Int)) × Unit) × Unit × Unit × Unit) =>
              br (x27.1.1 != x26.1.1) (some ((false, ()), (), (), ()))
                (br (decide ((0 : Int) ≤ y25))
                  (br (decide (y25 < (↑y22.length : Int)))
                    (bd
                      (grd (stoOk (x27.2.1.1, x27.2.1.2.1, x27.2.1.2.2.1, x27.2.1.2.2.2.1, ()))
                        ((atV
                              (chnOf x27.2.1.2.2.2.1
                                ((y22.getD y25.toNat (((0 : Int), (0 : Int)), (0 : Int))).1.1,
                                  (y22.getD y25.toNat (((0 : Int), (0 : Int)), (0 : Int))).1.2))
                              x27.2.1.1,
                            ()),
                          (x27.2.1.1, x27.2.1.2.1, x27.2.1.2.2.1, x27.2.1.2.2.2.1, ()), (), (), ()))
                      fun (x28 : (Int × Unit) × (Int × Int × Int × List ((Int × Int) × List (Int × Int)) × Unit) × Unit × Unit × Unit) =>
                      br (decide ((0 : Int) ≤ y25))
                        (br (decide (y25 < (↑y22.length : Int)))
                          (br (x28.1.1 != (y22.getD y25.toNat (((0 : Int), (0 : Int)), (0 : Int))).2)
                            (some ((false, ()), (), (), ()))
                            (br (decide ((0 : Int) ≤ y25))
                              (br (decide (y25 < (↑y22.length : Int)))
                                (bd
                                  (grd (stoOk (x28.2.1.1, x28.2.1.2.1, x28.2.1.2.2.1, x28.2.1.2.2.2.1, ()))
                                    ((newS
                                          (chnOf x28.2.1.2.2.2.1
                                            ((y22.getD y25.toNat (((0 : Int), (0 : Int)), (0 : Int))).1.1,
                                              (y22.getD y25.toNat (((0 : Int), (0 : Int)), (0 : Int))).1.2)),
                                        ()),
                                      (x28.2.1.1, x28.2.1.2.1, x28.2.1.2.2.1, x28.2.1.2.2.2.1, ()), (), ()))
                                  fun (x29 : (Int × Unit) × (Int × Int × Int × List ((Int × Int) × List (Int × Int)) × Unit) × Unit × Unit) =>
                                  br (x29.1.1 != y23) (some ((false, ()), (), (), ()))
                                    (rec18
                                      ((x29.2.1.1, x29.2.1.2.1, x29.2.1.2.2.1, x29.2.1.2.2.2.1, ()), y21, y22, y23, y24,
                                        IntKind.i64.wrap (y25 + (1 : Int)), ())))
                                none)
                              none))
                          none)
                        none)
                    none)
                  none))
            none)
          none)
      none)
    none)
  (some ((y20.2.1 == IntKind.i64.wrap ((↑y21.length : Int) + (↑y22.length : Int)), ()), (), (), ()))
def lStoreWhole_L2 (K : Nat) (rec3 : (Int × Int × Int × List ((Int × Int) × List (Int × Int)) × Unit) ×
    List ((Int × Int) × Int) × List ((Int × Int) × Int) × Int × Int × Int × Unit →
  Option
    ((Bool × Unit) ×
      Unit ×
        Unit ×
          Unit)) : (Int × Int × Int × List ((Int × Int) × List (Int × Int)) × Unit) ×
    List ((Int × Int) × Int) × List ((Int × Int) × Int) × Int × Int × Int × Unit →
  Option ((Bool × Unit) × Unit × Unit × Unit) := fun (y5, y6, y7, y8, y9, y10, ()) =>
  br (decide (y10 < (↑y6.length : Int)))
  (br (decide ((0 : Int) ≤ y10))
    (br (decide (y10 < (↑y6.length : Int)))
      (bd
        (grd (lenOk y7 && bufS y7)
          (((getK y7 ((y6.getD y10.toNat (((0 : Int), (0 : Int)), (0 : Int))).1.1, (y6.getD y10.toNat (((0 : Int), (0 : Int)), (0 : Int))).1.2)).1,
              (getK y7 ((y6.getD y10.toNat (((0 : Int), (0 : Int)), (0 : Int))).1.1, (y6.getD y10.toNat (((0 : Int), (0 : Int)), (0 : Int))).1.2)).2,
              ()),
            (), (), ()))
        fun (x11 : (Int × Bool × Unit) × Unit × Unit × Unit) =>
        br (!x11.1.2.1)
          (br (decide ((0 : Int) ≤ y10))
            (br (decide (y10 < (↑y6.length : Int)))
              (bd
                (grd (stoOk (y5.1, y5.2.1, y5.2.2.1, y5.2.2.2.1, ()))
                  ((atV
                        (chnOf y5.2.2.2.1
                          ((y6.getD y10.toNat (((0 : Int), (0 : Int)), (0 : Int))).1.1, (y6.getD y10.toNat (((0 : Int), (0 : Int)), (0 : Int))).1.2))
                        (7 : Int),
                      ()),
                    (y5.1, y5.2.1, y5.2.2.1, y5.2.2.2.1, ()), (), (), ()))
                fun (x12 : (Int × Unit) × (Int × Int × Int × List ((Int × Int) × List (Int × Int)) × Unit) × Unit × Unit × Unit) =>
                br (x12.1.1 != (0 : Int)) (some ((false, ()), (), (), ()))
                  (bd
                    (grd (stoOk (x12.2.1.1, x12.2.1.2.1, x12.2.1.2.2.1, x12.2.1.2.2.2.1, ()))
                      ((atV
                            (chnOf x12.2.1.2.2.2.1
                              ((y6.getD y10.toNat (((0 : Int), (0 : Int)), (0 : Int))).1.1,
                                (y6.getD y10.toNat (((0 : Int), (0 : Int)), (0 : Int))).1.2))
                            y9,
                          ()),
                        (x12.2.1.1, x12.2.1.2.1, x12.2.1.2.2.1, x12.2.1.2.2.2.1, ()), (), (), ()))
                    fun (x13 : (Int × Unit) × (Int × Int × Int × List ((Int × Int) × List (Int × Int)) × Unit) × Unit × Unit × Unit) =>
                    br (decide ((0 : Int) ≤ y10))
                      (br (decide (y10 < (↑y6.length : Int)))
                        (br (x13.1.1 != (y6.getD y10.toNat (((0 : Int), (0 : Int)), (0 : Int))).2)
                          (some ((false, ()), (), (), ()))
                          (bd
                            (grd (stoOk (x13.2.1.1, x13.2.1.2.1, x13.2.1.2.2.1, x13.2.1.2.2.2.1, ()))
                              ((atV
                                    (chnOf x13.2.1.2.2.2.1
                                      ((y6.getD y10.toNat (((0 : Int), (0 : Int)), (0 : Int))).1.1,
                                        (y6.getD y10.toNat (((0 : Int), (0 : Int)), (0 : Int))).1.2))
                                    x13.2.1.1,
                                  ()),
                                (x13.2.1.1, x13.2.1.2.1, x13.2.1.2.2.1, x13.2.1.2.2.2.1, ()), (), (), ()))
                            fun (x14 : (Int × Unit) × (Int × Int × Int × List ((Int × Int) × List (Int × Int)) × Unit) × Unit × Unit × Unit) =>
                            br (x14.1.1 != (y6.getD y10.toNat (((0 : Int), (0 : Int)), (0 : Int))).2)
                              (some ((false, ()), (), (), ()))
                              (rec3
                                ((x14.2.1.1, x14.2.1.2.1, x14.2.1.2.2.1, x14.2.1.2.2.2.1, ()), y6, y7, y8, y9,
                                  IntKind.i64.wrap (y10 + (1 : Int)), ()))))
                        none)
                      none))
              none)
            none)
          (bd
            (grd (stoOk (y5.1, y5.2.1, y5.2.2.1, y5.2.2.2.1, ()))
              ((atV
                    (chnOf y5.2.2.2.1
                      ((y6.getD y10.toNat (((0 : Int), (0 : Int)), (0 : Int))).1.1, (y6.getD y10.toNat (((0 : Int), (0 : Int)), (0 : Int))).1.2))
                    (7 : Int),
                  ()),
                (y5.1, y5.2.1, y5.2.2.1, y5.2.2.2.1, ()), (), (), ()))
            fun (x15 : (Int × Unit) × (Int × Int × Int × List ((Int × Int) × List (Int × Int)) × Unit) × Unit × Unit × Unit) =>
            br (x15.1.1 != (0 : Int)) (some ((false, ()), (), (), ()))
              (bd
                (grd (stoOk (x15.2.1.1, x15.2.1.2.1, x15.2.1.2.2.1, x15.2.1.2.2.2.1, ()))
                  ((atV
                        (chnOf x15.2.1.2.2.2.1
                          ((y6.getD y10.toNat (((0 : Int), (0 : Int)), (0 : Int))).1.1, (y6.getD y10.toNat (((0 : Int), (0 : Int)), (0 : Int))).1.2))
                        y9,
                      ()),
                    (x15.2.1.1, x15.2.1.2.1, x15.2.1.2.2.1, x15.2.1.2.2.2.1, ()), (), (), ()))
                fun (x16 : (Int × Unit) × (Int × Int × Int × List ((Int × Int) × List (Int × Int)) × Unit) × Unit × Unit × Unit) =>
                br (decide ((0 : Int) ≤ y10))
                  (br (decide (y10 < (↑y6.length : Int)))
                    (br (x16.1.1 != (y6.getD y10.toNat (((0 : Int), (0 : Int)), (0 : Int))).2)
                      (some ((false, ()), (), (), ()))
                      (bd
                        (grd (stoOk (x16.2.1.1, x16.2.1.2.1, x16.2.1.2.2.1, x16.2.1.2.2.2.1, ()))
                          ((atV
                                (chnOf x16.2.1.2.2.2.1
                                  ((y6.getD y10.toNat (((0 : Int), (0 : Int)), (0 : Int))).1.1,
                                    (y6.getD y10.toNat (((0 : Int), (0 : Int)), (0 : Int))).1.2))
                                x16.2.1.1,
                              ()),
                            (x16.2.1.1, x16.2.1.2.1, x16.2.1.2.2.1, x16.2.1.2.2.2.1, ()), (), (), ()))
                        fun (x17 : (Int × Unit) × (Int × Int × Int × List ((Int × Int) × List (Int × Int)) × Unit) × Unit × Unit × Unit) =>
                        br (x17.1.1 != x11.1.1) (some ((false, ()), (), (), ()))
                          (rec3
                            ((x17.2.1.1, x17.2.1.2.1, x17.2.1.2.2.1, x17.2.1.2.2.2.1, ()), y6, y7, y8, y9, IntKind.i64.wrap (y10 + (1 : Int)),
                              ()))))
                    none)
                  none)))
      none)
    none)
  (loopN lStoreWhole_L1 K ((y5.1, y5.2.1, y5.2.2.1, y5.2.2.2.1, ()), y6, y7, y8, y9, (0 : Int), ()))
def lStoreWhole_L3 (rec45 : (Int × Int × Int × List ((Int × Int) × List (Int × Int)) × Unit) ×
    List ((Int × Int) × Int) × List ((Int × Int) × Int) × Int × Int × Int × Unit →
  Option
    ((Bool × Unit) ×
      Unit ×
        Unit ×
          Unit)) : (Int × Int × Int × List ((Int × Int) × List (Int × Int)) × Unit) ×
    List ((Int × Int) × Int) × List ((Int × Int) × Int) × Int × Int × Int × Unit →
  Option ((Bool × Unit) × Unit × Unit × Unit) := fun (y47, y48, y49, y50, y51, y52, ()) =>
  br (decide (y52 < (↑y49.length : Int)))
  (br (decide ((0 : Int) ≤ y52))
    (br (decide (y52 < (↑y49.length : Int)))
      (bd
        (grd (lenOk y48 && bufS y48)
          (((getK y48 ((y49.getD y52.toNat (((0 : Int), (0 : Int)), (0 : Int))).1.1, (y49.getD y52.toNat (((0 : Int), (0 : Int)), (0 : Int))).1.2)).1,
              (getK y48
                  ((y49.getD y52.toNat (((0 : Int), (0 : Int)), (0 : Int))).1.1, (y49.getD y52.toNat (((0 : Int), (0 : Int)), (0 : Int))).1.2)).2,
              ()),
            (), (), ()))
        fun (x53 : (Int × Bool × Unit) × Unit × Unit × Unit) =>
        br (decide ((0 : Int) ≤ y52))
          (br (decide (y52 < (↑y49.length : Int)))
            (bd
              (grd (stoOk (y47.1, y47.2.1, y47.2.2.1, y47.2.2.2.1, ()))
                ((atV
                      (chnOf y47.2.2.2.1
                        ((y49.getD y52.toNat (((0 : Int), (0 : Int)), (0 : Int))).1.1, (y49.getD y52.toNat (((0 : Int), (0 : Int)), (0 : Int))).1.2))
                      y51,
                    ()),
                  (y47.1, y47.2.1, y47.2.2.1, y47.2.2.2.1, ()), (), (), ()))
              fun (x54 : (Int × Unit) × (Int × Int × Int × List ((Int × Int) × List (Int × Int)) × Unit) × Unit × Unit × Unit) =>
              br (x54.1.1 != x53.1.1) (some ((false, ()), (), (), ()))
                (br (decide ((0 : Int) ≤ y52))
                  (br (decide (y52 < (↑y49.length : Int)))
                    (bd
                      (grd (stoOk (x54.2.1.1, x54.2.1.2.1, x54.2.1.2.2.1, x54.2.1.2.2.2.1, ()))
                        ((atV
                              (chnOf x54.2.1.2.2.2.1
                                ((y49.getD y52.toNat (((0 : Int), (0 : Int)), (0 : Int))).1.1,
                                  (y49.getD y52.toNat (((0 : Int), (0 : Int)), (0 : Int))).1.2))
                              x54.2.1.1,
                            ()),
                          (x54.2.1.1, x54.2.1.2.1, x54.2.1.2.2.1, x54.2.1.2.2.2.1, ()), (), (), ()))
                      fun (x55 : (Int × Unit) × (Int × Int × Int × List ((Int × Int) × List (Int × Int)) × Unit) × Unit × Unit × Unit) =>
                      br (decide ((0 : Int) ≤ y52))
                        (br (decide (y52 < (↑y49.length : Int)))
                          (br (x55.1.1 != (y49.getD y52.toNat (((0 : Int), (0 : Int)), (0 : Int))).2)
                            (some ((false, ()), (), (), ()))
                            (br (decide ((0 : Int) ≤ y52))
                              (br (decide (y52 < (↑y49.length : Int)))
                                (bd
                                  (grd (stoOk (x55.2.1.1, x55.2.1.2.1, x55.2.1.2.2.1, x55.2.1.2.2.2.1, ()))
                                    ((newS
                                          (chnOf x55.2.1.2.2.2.1
                                            ((y49.getD y52.toNat (((0 : Int), (0 : Int)), (0 : Int))).1.1,
                                              (y49.getD y52.toNat (((0 : Int), (0 : Int)), (0 : Int))).1.2)),
                                        ()),
                                      (x55.2.1.1, x55.2.1.2.1, x55.2.1.2.2.1, x55.2.1.2.2.2.1, ()), (), ()))
                                  fun (x56 : (Int × Unit) × (Int × Int × Int × List ((Int × Int) × List (Int × Int)) × Unit) × Unit × Unit) =>
                                  br (x56.1.1 != y50) (some ((false, ()), (), (), ()))
                                    (rec45
                                      ((x56.2.1.1, x56.2.1.2.1, x56.2.1.2.2.1, x56.2.1.2.2.2.1, ()), y48, y49, y50, y51,
                                        IntKind.i64.wrap (y52 + (1 : Int)), ())))
                                none)
                              none))
                          none)
                        none)
                    none)
                  none))
            none)
          none)
      none)
    none)
  (some ((y47.2.1 == IntKind.i64.wrap ((↑y48.length : Int) + (↑y49.length : Int)), ()), (), (), ()))
def lStoreWhole_L4 (K : Nat) (rec30 : (Int × Int × Int × List ((Int × Int) × List (Int × Int)) × Unit) ×
    List ((Int × Int) × Int) × List ((Int × Int) × Int) × Int × Int × Int × Unit →
  Option
    ((Bool × Unit) ×
      Unit ×
        Unit ×
          Unit)) : (Int × Int × Int × List ((Int × Int) × List (Int × Int)) × Unit) ×
    List ((Int × Int) × Int) × List ((Int × Int) × Int) × Int × Int × Int × Unit →
  Option ((Bool × Unit) × Unit × Unit × Unit) := fun (y32, y33, y34, y35, y36, y37, ()) =>
  br (decide (y37 < (↑y33.length : Int)))
  (br (decide ((0 : Int) ≤ y37))
    (br (decide (y37 < (↑y33.length : Int)))
      (bd
        (grd (lenOk y34 && bufS y34)
          (((getK y34 ((y33.getD y37.toNat (((0 : Int), (0 : Int)), (0 : Int))).1.1, (y33.getD y37.toNat (((0 : Int), (0 : Int)), (0 : Int))).1.2)).1,
              (getK y34
                  ((y33.getD y37.toNat (((0 : Int), (0 : Int)), (0 : Int))).1.1, (y33.getD y37.toNat (((0 : Int), (0 : Int)), (0 : Int))).1.2)).2,
              ()),
            (), (), ()))
        fun (x38 : (Int × Bool × Unit) × Unit × Unit × Unit) =>
        br (!x38.1.2.1)
          (br (decide ((0 : Int) ≤ y37))
            (br (decide (y37 < (↑y33.length : Int)))
              (bd
                (grd (stoOk (y32.1, y32.2.1, y32.2.2.1, y32.2.2.2.1, ()))
                  ((atV
                        (chnOf y32.2.2.2.1
                          ((y33.getD y37.toNat (((0 : Int), (0 : Int)), (0 : Int))).1.1,
                            (y33.getD y37.toNat (((0 : Int), (0 : Int)), (0 : Int))).1.2))
                        (7 : Int),
                      ()),
                    (y32.1, y32.2.1, y32.2.2.1, y32.2.2.2.1, ()), (), (), ()))
                fun (x39 : (Int × Unit) × (Int × Int × Int × List ((Int × Int) × List (Int × Int)) × Unit) × Unit × Unit × Unit) =>
                br (x39.1.1 != (0 : Int)) (some ((false, ()), (), (), ()))
                  (bd
                    (grd (stoOk (x39.2.1.1, x39.2.1.2.1, x39.2.1.2.2.1, x39.2.1.2.2.2.1, ()))
                      ((atV
                            (chnOf x39.2.1.2.2.2.1
                              ((y33.getD y37.toNat (((0 : Int), (0 : Int)), (0 : Int))).1.1,
                                (y33.getD y37.toNat (((0 : Int), (0 : Int)), (0 : Int))).1.2))
                            y36,
                          ()),
                        (x39.2.1.1, x39.2.1.2.1, x39.2.1.2.2.1, x39.2.1.2.2.2.1, ()), (), (), ()))
                    fun (x40 : (Int × Unit) × (Int × Int × Int × List ((Int × Int) × List (Int × Int)) × Unit) × Unit × Unit × Unit) =>
                    br (decide ((0 : Int) ≤ y37))
                      (br (decide (y37 < (↑y33.length : Int)))
                        (br (x40.1.1 != (y33.getD y37.toNat (((0 : Int), (0 : Int)), (0 : Int))).2)
                          (some ((false, ()), (), (), ()))
                          (bd
                            (grd (stoOk (x40.2.1.1, x40.2.1.2.1, x40.2.1.2.2.1, x40.2.1.2.2.2.1, ()))
                              ((atV
                                    (chnOf x40.2.1.2.2.2.1
                                      ((y33.getD y37.toNat (((0 : Int), (0 : Int)), (0 : Int))).1.1,
                                        (y33.getD y37.toNat (((0 : Int), (0 : Int)), (0 : Int))).1.2))
                                    x40.2.1.1,
                                  ()),
                                (x40.2.1.1, x40.2.1.2.1, x40.2.1.2.2.1, x40.2.1.2.2.2.1, ()), (), (), ()))
                            fun (x41 : (Int × Unit) × (Int × Int × Int × List ((Int × Int) × List (Int × Int)) × Unit) × Unit × Unit × Unit) =>
                            br (x41.1.1 != (y33.getD y37.toNat (((0 : Int), (0 : Int)), (0 : Int))).2)
                              (some ((false, ()), (), (), ()))
                              (rec30
                                ((x41.2.1.1, x41.2.1.2.1, x41.2.1.2.2.1, x41.2.1.2.2.2.1, ()), y33, y34, y35, y36,
                                  IntKind.i64.wrap (y37 + (1 : Int)), ()))))
                        none)
                      none))
              none)
            none)
          (bd
            (grd (stoOk (y32.1, y32.2.1, y32.2.2.1, y32.2.2.2.1, ()))
              ((atV
                    (chnOf y32.2.2.2.1
                      ((y33.getD y37.toNat (((0 : Int), (0 : Int)), (0 : Int))).1.1, (y33.getD y37.toNat (((0 : Int), (0 : Int)), (0 : Int))).1.2))
                    (7 : Int),
                  ()),
                (y32.1, y32.2.1, y32.2.2.1, y32.2.2.2.1, ()), (), (), ()))
            fun (x42 : (Int × Unit) × (Int × Int × Int × List ((Int × Int) × List (Int × Int)) × Unit) × Unit × Unit × Unit) =>
            br (x42.1.1 != (0 : Int)) (some ((false, ()), (), (), ()))
              (bd
                (grd (stoOk (x42.2.1.1, x42.2.1.2.1, x42.2.1.2.2.1, x42.2.1.2.2.2.1, ()))
                  ((atV
                        (chnOf x42.2.1.2.2.2.1
                          ((y33.getD y37.toNat (((0 : Int), (0 : Int)), (0 : Int))).1.1,
                            (y33.getD y37.toNat (((0 : Int), (0 : Int)), (0 : Int))).1.2))
                        y36,
                      ()),
                    (x42.2.1.1, x42.2.1.2.1, x42.2.1.2.2.1, x42.2.1.2.2.2.1, ()), (), (), ()))
                fun (x43 : (Int × Unit) × (Int × Int × Int × List ((Int × Int) × List (Int × Int)) × Unit) × Unit × Unit × Unit) =>
                br (decide ((0 : Int) ≤ y37))
                  (br (decide (y37 < (↑y33.length : Int)))
                    (br (x43.1.1 != (y33.getD y37.toNat (((0 : Int), (0 : Int)), (0 : Int))).2)
                      (some ((false, ()), (), (), ()))
                      (bd
                        (grd (stoOk (x43.2.1.1, x43.2.1.2.1, x43.2.1.2.2.1, x43.2.1.2.2.2.1, ()))
                          ((atV
                                (chnOf x43.2.1.2.2.2.1
                                  ((y33.getD y37.toNat (((0 : Int), (0 : Int)), (0 : Int))).1.1,
                                    (y33.getD y37.toNat (((0 : Int), (0 : Int)), (0 : Int))).1.2))
                                x43.2.1.1,
                              ()),
                            (x43.2.1.1, x43.2.1.2.1, x43.2.1.2.2.1, x43.2.1.2.2.2.1, ()), (), (), ()))
                        fun (x44 : (Int × Unit) × (Int × Int × Int × List ((Int × Int) × List (Int × Int)) × Unit) × Unit × Unit × Unit) =>
                        br (x44.1.1 != x38.1.1) (some ((false, ()), (), (), ()))
                          (rec30
                            ((x44.2.1.1, x44.2.1.2.1, x44.2.1.2.2.1, x44.2.1.2.2.2.1, ()), y33, y34, y35, y36,
                              IntKind.i64.wrap (y37 + (1 : Int)), ()))))
                    none)
                  none)))
      none)
    none)
  (loopN lStoreWhole_L3 K ((y32.1, y32.2.1, y32.2.2.1, y32.2.2.2.1, ()), y33, y34, y35, y36, (0 : Int), ()))
def lStoreWhole_L5 (rec72 : (Int × Int × Int × List ((Int × Int) × List (Int × Int)) × Unit) ×
    List ((Int × Int) × Int) × List ((Int × Int) × Int) × Int × Int × Int × Unit →
  Option
    ((Bool × Unit) ×
      Unit ×
        Unit ×
          Unit)) : (Int × Int × Int × List ((Int × Int) × List (Int × Int)) × Unit) ×
    List ((Int × Int) × Int) × List ((Int × Int) × Int) × Int × Int × Int × Unit →
  Option ((Bool × Unit) × Unit × Unit × Unit) := fun (y74, y75, y76, y77, y78, y79, ()) =>
  br (decide (y79 < (↑y76.length : Int)))
  (br (decide ((0 : Int) ≤ y79))
    (br (decide (y79 < (↑y76.length : Int)))
      (bd
        (grd (lenOk y75 && bufS y75)
          (((getK y75 ((y76.getD y79.toNat (((0 : Int), (0 : Int)), (0 : Int))).1.1, (y76.getD y79.toNat (((0 : Int), (0 : Int)), (0 : Int))).1.2)).1,
              (getK y75
                  ((y76.getD y79.toNat (((0 : Int), (0 : Int)), (0 : Int))).1.1, (y76.getD y79.toNat (((0 : Int), (0 : Int)), (0 : Int))).1.2)).2,
              ()),
            (), (), ()))
        fun (x80 : (Int × Bool × Unit) × Unit × Unit × Unit) =>
        br (decide ((0 : Int) ≤ y79))
          (br (decide (y79 < (↑y76.length : Int)))
            (bd
              (grd (stoOk (y74.1, y74.2.1, y74.2.2.1, y74.2.2.2.1, ()))
                ((atV
                      (chnOf y74.2.2.2.1
                        ((y76.getD y79.toNat (((0 : Int), (0 : Int)), (0 : Int))).1.1, (y76.getD y79.toNat (((0 : Int), (0 : Int)), (0 : Int))).1.2))
                      y78,
                    ()),
                  (y74.1, y74.2.1, y74.2.2.1, y74.2.2.2.1, ()), (), (), ()))
              fun (x81 : (Int × Unit) × (Int × Int × Int × List ((Int × Int) × List (Int × Int)) × Unit) × Unit × Unit × Unit) =>
              br (x81.1.1 != x80.1.1) (some ((false, ()), (), (), ()))
                (br (decide ((0 : Int) ≤ y79))
                  (br (decide (y79 < (↑y76.length : Int)))
                    (bd
                      (grd (stoOk (x81.2.1.1, x81.2.1.2.1, x81.2.1.2.2.1, x81.2.1.2.2.2.1, ()))
                        ((atV
                              (chnOf x81.2.1.2.2.2.1
                                ((y76.getD y79.toNat (((0 : Int), (0 : Int)), (0 : Int))).1.1,
                                  (y76.getD y79.toNat (((0 : Int), (0 : Int)), (0 : Int))).1.2))
                              x81.2.1.1,
                            ()),
                          (x81.2.1.1, x81.2.1.2.1, x81.2.1.2.2.1, x81.2.1.2.2.2.1, ()), (), (), ()))
                      fun (x82 : (Int × Unit) × (Int × Int × Int × List ((Int × Int) × List (Int × Int)) × Unit) × Unit × Unit × Unit) =>
                      br (decide ((0 : Int) ≤ y79))
                        (br (decide (y79 < (↑y76.length : Int)))
                          (br (x82.1.1 != (y76.getD y79.toNat (((0 : Int), (0 : Int)), (0 : Int))).2)
                            (some ((false, ()), (), (), ()))
                            (br (decide ((0 : Int) ≤ y79))
                              (br (decide (y79 < (↑y76.length : Int)))
                                (bd
                                  (grd (stoOk (x82.2.1.1, x82.2.1.2.1, x82.2.1.2.2.1, x82.2.1.2.2.2.1, ()))
                                    ((newS
                                          (chnOf x82.2.1.2.2.2.1
                                            ((y76.getD y79.toNat (((0 : Int), (0 : Int)), (0 : Int))).1.1,
                                              (y76.getD y79.toNat (((0 : Int), (0 : Int)), (0 : Int))).1.2)),
                                        ()),
                                      (x82.2.1.1, x82.2.1.2.1, x82.2.1.2.2.1, x82.2.1.2.2.2.1, ()), (), ()))
                                  fun (x83 : (Int × Unit) × (Int × Int × Int × List ((Int × Int) × List (Int × Int)) × Unit) × Unit × Unit) =>
                                  br (x83.1.1 != y77) (some ((false, ()), (), (), ()))
                                    (rec72
                                      ((x83.2.1.1, x83.2.1.2.1, x83.2.1.2.2.1, x83.2.1.2.2.2.1, ()), y75, y76, y77, y78,
                                        IntKind.i64.wrap (y79 + (1 : Int)), ())))
                                none)
                              none))
                          none)
                        none)
                    none)
                  none))
            none)
          none)
      none)
    none)
  (some ((y74.2.1 == IntKind.i64.wrap ((↑y75.length : Int) + (↑y76.length : Int)), ()), (), (), ()))
def lStoreWhole_L6 (K : Nat) (rec57 : (Int × Int × Int × List ((Int × Int) × List (Int × Int)) × Unit) ×
    List ((Int × Int) × Int) × List ((Int × Int) × Int) × Int × Int × Int × Unit →
  Option
    ((Bool × Unit) ×
      Unit ×
        Unit ×
          Unit)) : (Int × Int × Int × List ((Int × Int) × List (Int × Int)) × Unit) ×
    List ((Int × Int) × Int) × List ((Int × Int) × Int) × Int × Int × Int × Unit →
  Option ((Bool × Unit) × Unit × Unit × Unit) := fun (y59, y60, y61, y62, y63, y64, ()) =>
  br (decide (y64 < (↑y60.length : Int)))
  (br (decide ((0 : Int) ≤ y64))
    (br (decide (y64 < (↑y60.length : Int)))
      (bd
        (grd (lenOk y61 && bufS y61)
          (((getK y61 ((y60.getD y64.toNat (((0 : Int), (0 : Int)), (0 : Int))).1.1, (y60.getD y64.toNat (((0 : Int), (0 : Int)), (0 : Int))).1.2)).1,
              (getK y61
                  ((y60.getD y64.toNat (((0 : Int), (0 : Int)), (0 : Int))).1.1, (y60.getD y64.toNat (((0 : Int), (0 : Int)), (0 : Int))).1.2)).2,
              ()),
            (), (), ()))
        fun (x65 : (Int × Bool × Unit) × Unit × Unit × Unit) =>
        br (!x65.1.2.1)
          (br (decide ((0 : Int) ≤ y64))
            (br (decide (y64 < (↑y60.length : Int)))
              (bd
                (grd (stoOk (y59.1, y59.2.1, y59.2.2.1, y59.2.2.2.1, ()))
                  ((atV
                        (chnOf y59.2.2.2.1
                          ((y60.getD y64.toNat (((0 : Int), (0 : Int)), (0 : Int))).1.1,
                            (y60.getD y64.toNat (((0 : Int), (0 : Int)), (0 : Int))).1.2))
                        (7 : Int),
                      ()),
                    (y59.1, y59.2.1, y59.2.2.1, y59.2.2.2.1, ()), (), (), ()))
                fun (x66 : (Int × Unit) × (Int × Int × Int × List ((Int × Int) × List (Int × Int)) × Unit) × Unit × Unit × Unit) =>
                br (x66.1.1 != (0 : Int)) (some ((false, ()), (), (), ()))
                  (bd
                    (grd (stoOk (x66.2.1.1, x66.2.1.2.1, x66.2.1.2.2.1, x66.2.1.2.2.2.1, ()))
                      ((atV
                            (chnOf x66.2.1.2.2.2.1
                              ((y60.getD y64.toNat (((0 : Int), (0 : Int)), (0 : Int))).1.1,
                                (y60.getD y64.toNat (((0 : Int), (0 : Int)), (0 : Int))).1.2))
                            y63,
                          ()),
                        (x66.2.1.1, x66.2.1.2.1, x66.2.1.2.2.1, x66.2.1.2.2.2.1, ()), (), (), ()))
                    fun (x67 : (Int × Unit) × (Int × Int × Int × List ((Int × Int) × List (Int × Int)) × Unit) × Unit × Unit × Unit) =>
                    br (decide ((0 : Int) ≤ y64))
                      (br (decide (y64 < (↑y60.length : Int)))
                        (br (x67.1.1 != (y60.getD y64.toNat (((0 : Int), (0 : Int)), (0 : Int))).2)
                          (some ((false, ()), (), (), ()))
                          (bd
                            (grd (stoOk (x67.2.1.1, x67.2.1.2.1, x67.2.1.2.2.1, x67.2.1.2.2.2.1, ()))
                              ((atV
                                    (chnOf x67.2.1.2.2.2.1
                                      ((y60.getD y64.toNat (((0 : Int), (0 : Int)), (0 : Int))).1.1,
                                        (y60.getD y64.toNat (((0 : Int), (0 : Int)), (0 : Int))).1.2))
                                    x67.2.1.1,
                                  ()),
                                (x67.2.1.1, x67.2.1.2.1, x67.2.1.2.2.1, x67.2.1.2.2.2.1, ()), (), (), ()))
                            fun (x68 : (Int × Unit) × (Int × Int × Int × List ((Int × Int) × List (Int × Int)) × Unit) × Unit × Unit × Unit) =>
                            br (x68.1.1 != (y60.getD y64.toNat (((0 : Int), (0 : Int)), (0 : Int))).2)
                              (some ((false, ()), (), (), ()))
                              (rec57
                                ((x68.2.1.1, x68.2.1.2.1, x68.2.1.2.2.1, x68.2.1.2.2.2.1, ()), y60, y61, y62, y63,
                                  IntKind.i64.wrap (y64 + (1 : Int)), ()))))
                        none)
                      none))
              none)
            none)
          (bd
            (grd (stoOk (y59.1, y59.2.1, y59.2.2.1, y59.2.2.2.1, ()))
              ((atV
                    (chnOf y59.2.2.2.1
                      ((y60.getD y64.toNat (((0 : Int), (0 : Int)), (0 : Int))).1.1, (y60.getD y64.toNat (((0 : Int), (0 : Int)), (0 : Int))).1.2))
                    (7 : Int),
                  ()),
                (y59.1, y59.2.1, y59.2.2.1, y59.2.2.2.1, ()), (), (), ()))
            fun (x69 : (Int × Unit) × (Int × Int × Int × List ((Int × Int) × List (Int × Int)) × Unit) × Unit × Unit × Unit) =>
            br (x69.1.1 != (0 : Int)) (some ((false, ()), (), (), ()))
              (bd
                (grd (stoOk (x69.2.1.1, x69.2.1.2.1, x69.2.1.2.2.1, x69.2.1.2.2.2.1, ()))
                  ((atV
                        (chnOf x69.2.1.2.2.2.1
                          ((y60.getD y64.toNat (((0 : Int), (0 : Int)), (0 : Int))).1.1,
                            (y60.getD y64.toNat (((0 : Int), (0 : Int)), (0 : Int))).1.2))
                        y63,
                      ()),
                    (x69.2.1.1, x69.2.1.2.1, x69.2.1.2.2.1, x69.2.1.2.2.2.1, ()), (), (), ()))
                fun (x70 : (Int × Unit) × (Int × Int × Int × List ((Int × Int) × List (Int × Int)) × Unit) × Unit × Unit × Unit) =>
                br (decide ((0 : Int) ≤ y64))
                  (br (decide (y64 < (↑y60.length : Int)))
                    (br (x70.1.1 != (y60.getD y64.toNat (((0 : Int), (0 : Int)), (0 : Int))).2)
                      (some ((false, ()), (), (), ()))
                      (bd
                        (grd (stoOk (x70.2.1.1, x70.2.1.2.1, x70.2.1.2.2.1, x70.2.1.2.2.2.1, ()))
                          ((atV
                                (chnOf x70.2.1.2.2.2.1
                                  ((y60.getD y64.toNat (((0 : Int), (0 : Int)), (0 : Int))).1.1,
                                    (y60.getD y64.toNat (((0 : Int), (0 : Int)), (0 : Int))).1.2))
                                x70.2.1.1,
                              ()),
                            (x70.2.1.1, x70.2.1.2.1, x70.2.1.2.2.1, x70.2.1.2.2.2.1, ()), (), (), ()))
                        fun (x71 : (Int × Unit) × (Int × Int × Int × List ((Int × Int) × List (Int × Int)) × Unit) × Unit × Unit × Unit) =>
                        br (x71.1.1 != x65.1.1) (some ((false, ()), (), (), ()))
                          (rec57
                            ((x71.2.1.1, x71.2.1.2.1, x71.2.1.2.2.1, x71.2.1.2.2.2.1, ()), y60, y61, y62, y63,
                              IntKind.i64.wrap (y64 + (1 : Int)), ()))))
                    none)
                  none)))
      none)
    none)
  (loopN lStoreWhole_L5 K ((y59.1, y59.2.1, y59.2.2.1, y59.2.2.2.1, ()), y60, y61, y62, y63, (0 : Int), ()))
def lStoreWhole_L7 (rec99 : (Int × Int × Int × List ((Int × Int) × List (Int × Int)) × Unit) ×
    List ((Int × Int) × Int) × List ((Int × Int) × Int) × Int × Int × Int × Unit →
  Option
    ((Bool × Unit) ×
      Unit ×
        Unit ×
          Unit)) : (Int × Int × Int × List ((Int × Int) × List (Int × Int)) × Unit) ×
    List ((Int × Int) × Int) × List ((Int × Int) × Int) × Int × Int × Int × Unit →
  Option ((Bool × Unit) × Unit × Unit × Unit) := fun (y101, y102, y103, y104, y105, y106, ()) =>
  br (decide (y106 < (↑y103.length : Int)))
  (br (decide ((0 : Int) ≤ y106))
    (br (decide (y106 < (↑y103.length : Int)))
      (bd
        (grd (lenOk y102 && bufS y102)
          (((getK y102
                  ((y103.getD y106.toNat (((0 : Int), (0 : Int)), (0 : Int))).1.1, (y103.getD y106.toNat (((0 : Int), (0 : Int)), (0 : Int))).1.2)).1,
              (getK y102
                  ((y103.getD y106.toNat (((0 : Int), (0 : Int)), (0 : Int))).1.1, (y103.getD y106.toNat (((0 : Int), (0 : Int)), (0 : Int))).1.2)).2,
              ()),
            (), (), ()))
        fun (x107 : (Int × Bool × Unit) × Unit × Unit × Unit) =>
        br (decide ((0 : Int) ≤ y106))
          (br (decide (y106 < (↑y103.length : Int)))
            (bd
              (grd (stoOk (y101.1, y101.2.1, y101.2.2.1, y101.2.2.2.1, ()))
                ((atV
                      (chnOf y101.2.2.2.1
                        ((y103.getD y106.toNat (((0 : Int), (0 : Int)), (0 : Int))).1.1,
                          (y103.getD y106.toNat (((0 : Int), (0 : Int)), (0 : Int))).1.2))
                      y105,
                    ()),
                  (y101.1, y101.2.1, y101.2.2.1, y101.2.2.2.1, ()), (), (), ()))
              fun (x108 : (Int × Unit) × (Int × Int × Int × List ((Int × Int) × List (Int × Int)) × Unit) × Unit × Unit × Unit) =>
              br (x108.1.1 != x107.1.1) (some ((false, ()), (), (), ()))
                (br (decide ((0 : Int) ≤ y106))
                  (br (decide (y106 < (↑y103.length : Int)))
                    (bd
                      (grd (stoOk (x108.2.1.1, x108.2.1.2.1, x108.2.1.2.2.1, x108.2.1.2.2.2.1, ()))
                        ((atV
                              (chnOf x108.2.1.2.2.2.1
                                ((y103.getD y106.toNat (((0 : Int), (0 : Int)), (0 : Int))).1.1,
                                  (y103.getD y106.toNat (((0 : Int), (0 : Int)), (0 : Int))).1.2))
                              x108.2.1.1,
                            ()),
                          (x108.2.1.1, x108.2.1.2.1, x108.2.1.2.2.1, x108.2.1.2.2.2.1, ()), (), (), ()))
                      fun (x109 : (Int × Unit) × (Int × Int × Int × List ((Int × Int) × List (Int × Int)) × Unit) × Unit × Unit × Unit) =>
                      br (decide ((0 : Int) ≤ y106))
                        (br (decide (y106 < (↑y103.length : Int)))
                          (br (x109.1.1 != (y103.getD y106.toNat (((0 : Int), (0 : Int)), (0 : Int))).2)
                            (some ((false, ()), (), (), ()))
                            (br (decide ((0 : Int) ≤ y106))
                              (br (decide (y106 < (↑y103.length : Int)))
                                (bd
                                  (grd (stoOk (x109.2.1.1, x109.2.1.2.1, x109.2.1.2.2.1, x109.2.1.2.2.2.1, ()))
                                    ((newS
                                          (chnOf x109.2.1.2.2.2.1
                                            ((y103.getD y106.toNat (((0 : Int), (0 : Int)), (0 : Int))).1.1,
                                              (y103.getD y106.toNat (((0 : Int), (0 : Int)), (0 : Int))).1.2)),
                                        ()),
                                      (x109.2.1.1, x109.2.1.2.1, x109.2.1.2.2.1, x109.2.1.2.2.2.1, ()), (), ()))
                                  fun (x110 : (Int × Unit) × (Int × Int × Int × List ((Int × Int) × List (Int × Int)) × Unit) × Unit × Unit) =>
                                  br (x110.1.1 != y104) (some ((false, ()), (), (), ()))
                                    (rec99
                                      ((x110.2.1.1, x110.2.1.2.1, x110.2.1.2.2.1, x110.2.1.2.2.2.1, ()), y102, y103, y104, y105,
                                        IntKind.i64.wrap (y106 + (1 : Int)), ())))
                                none)
                              none))
                          none)
                        none)
                    none)
                  none))
            none)
          none)
      none)
    none)
  (some ((y101.2.1 == IntKind.i64.wrap ((↑y102.length : Int) + (↑y103.length : Int)), ()), (), (), ()))
def lStoreWhole_L8 (K : Nat) (rec84 : (Int × Int × Int × List ((Int × Int) × List (Int × Int)) × Unit) ×
    List ((Int × Int) × Int) × List ((Int × Int) × Int) × Int × Int × Int × Unit →
  Option
    ((Bool × Unit) ×
      Unit ×
        Unit ×
          Unit)) : (Int × Int × Int × List ((Int × Int) × List (Int × Int)) × Unit) ×
    List ((Int × Int) × Int) × List ((Int × Int) × Int) × Int × Int × Int × Unit →
  Option ((Bool × Unit) × Unit × Unit × Unit) := fun (y86, y87, y88, y89, y90, y91, ()) =>
  br (decide (y91 < (↑y87.length : Int)))
  (br (decide ((0 : Int) ≤ y91))
    (br (decide (y91 < (↑y87.length : Int)))
      (bd
        (grd (lenOk y88 && bufS y88)
          (((getK y88 ((y87.getD y91.toNat (((0 : Int), (0 : Int)), (0 : Int))).1.1, (y87.getD y91.toNat (((0 : Int), (0 : Int)), (0 : Int))).1.2)).1,
              (getK y88
                  ((y87.getD y91.toNat (((0 : Int), (0 : Int)), (0 : Int))).1.1, (y87.getD y91.toNat (((0 : Int), (0 : Int)), (0 : Int))).1.2)).2,
              ()),
            (), (), ()))
        fun (x92 : (Int × Bool × Unit) × Unit × Unit × Unit) =>
        br (!x92.1.2.1)
          (br (decide ((0 : Int) ≤ y91))
            (br (decide (y91 < (↑y87.length : Int)))
              (bd
                (grd (stoOk (y86.1, y86.2.1, y86.2.2.1, y86.2.2.2.1, ()))
                  ((atV
                        (chnOf y86.2.2.2.1
                          ((y87.getD y91.toNat (((0 : Int), (0 : Int)), (0 : Int))).1.1,
                            (y87.getD y91.toNat (((0 : Int), (0 : Int)), (0 : Int))).1.2))
                        (7 : Int),
                      ()),
                    (y86.1, y86.2.1, y86.2.2.1, y86.2.2.2.1, ()), (), (), ()))
                fun (x93 : (Int × Unit) × (Int × Int × Int × List ((Int × Int) × List (Int × Int)) × Unit) × Unit × Unit × Unit) =>
                br (x93.1.1 != (0 : Int)) (some ((false, ()), (), (), ()))
                  (bd
                    (grd (stoOk (x93.2.1.1, x93.2.1.2.1, x93.2.1.2.2.1, x93.2.1.2.2.2.1, ()))
                      ((atV
                            (chnOf x93.2.1.2.2.2.1
                              ((y87.getD y91.toNat (((0 : Int), (0 : Int)), (0 : Int))).1.1,
                                (y87.getD y91.toNat (((0 : Int), (0 : Int)), (0 : Int))).1.2))
                            y90,
                          ()),
                        (x93.2.1.1, x93.2.1.2.1, x93.2.1.2.2.1, x93.2.1.2.2.2.1, ()), (), (), ()))
                    fun (x94 : (Int × Unit) × (Int × Int × Int × List ((Int × Int) × List (Int × Int)) × Unit) × Unit × Unit × Unit) =>
                    br (decide ((0 : Int) ≤ y91))
                      (br (decide (y91 < (↑y87.length : Int)))
                        (br (x94.1.1 != (y87.getD y91.toNat (((0 : Int), (0 : Int)), (0 : Int))).2)
                          (some ((false, ()), (), (), ()))
                          (bd
                            (grd (stoOk (x94.2.1.1, x94.2.1.2.1, x94.2.1.2.2.1, x94.2.1.2.2.2.1, ()))
                              ((atV
                                    (chnOf x94.2.1.2.2.2.1
                                      ((y87.getD y91.toNat (((0 : Int), (0 : Int)), (0 : Int))).1.1,
                                        (y87.getD y91.toNat (((0 : Int), (0 : Int)), (0 : Int))).1.2))
                                    x94.2.1.1,
                                  ()),
                                (x94.2.1.1, x94.2.1.2.1, x94.2.1.2.2.1, x94.2.1.2.2.2.1, ()), (), (), ()))
                            fun (x95 : (Int × Unit) × (Int × Int × Int × List ((Int × Int) × List (Int × Int)) × Unit) × Unit × Unit × Unit) =>
                            br (x95.1.1 != (y87.getD y91.toNat (((0 : Int), (0 : Int)), (0 : Int))).2)
                              (some ((false, ()), (), (), ()))
                              (rec84
                                ((x95.2.1.1, x95.2.1.2.1, x95.2.1.2.2.1, x95.2.1.2.2.2.1, ()), y87, y88, y89, y90,
                                  IntKind.i64.wrap (y91 + (1 : Int)), ()))))
                        none)
                      none))
              none)
            none)
          (bd
            (grd (stoOk (y86.1, y86.2.1, y86.2.2.1, y86.2.2.2.1, ()))
              ((atV
                    (chnOf y86.2.2.2.1
                      ((y87.getD y91.toNat (((0 : Int), (0 : Int)), (0 : Int))).1.1, (y87.getD y91.toNat (((0 : Int), (0 : Int)), (0 : Int))).1.2))
                    (7 : Int),
                  ()),
                (y86.1, y86.2.1, y86.2.2.1, y86.2.2.2.1, ()), (), (), ()))
            fun (x96 : (Int × Unit) × (Int × Int × Int × List ((Int × Int) × List (Int × Int)) × Unit) × Unit × Unit × Unit) =>
            br (x96.1.1 != (0 : Int)) (some ((false, ()), (), (), ()))
              (bd
                (grd (stoOk (x96.2.1.1, x96.2.1.2.1, x96.2.1.2.2.1, x96.2.1.2.2.2.1, ()))
                  ((atV
                        (chnOf x96.2.1.2.2.2.1
                          ((y87.getD y91.toNat (((0 : Int), (0 : Int)), (0 : Int))).1.1,
                            (y87.getD y91.toNat (((0 : Int), (0 : Int)), (0 : Int))).1.2))
                        y90,
                      ()),
                    (x96.2.1.1, x96.2.1.2.1, x96.2.1.2.2.1, x96.2.1.2.2.2.1, ()), (), (), ()))
                fun (x97 : (Int × Unit) × (Int × Int × Int × List ((Int × Int) × List (Int × Int)) × Unit) × Unit × Unit × Unit) =>
                br (decide ((0 : Int) ≤ y91))
                  (br (decide (y91 < (↑y87.length : Int)))
                    (br (x97.1.1 != (y87.getD y91.toNat (((0 : Int), (0 : Int)), (0 : Int))).2)
                      (some ((false, ()), (), (), ()))
                      (bd
                        (grd (stoOk (x97.2.1.1, x97.2.1.2.1, x97.2.1.2.2.1, x97.2.1.2.2.2.1, ()))
                          ((atV
                                (chnOf x97.2.1.2.2.2.1
                                  ((y87.getD y91.toNat (((0 : Int), (0 : Int)), (0 : Int))).1.1,
                                    (y87.getD y91.toNat (((0 : Int), (0 : Int)), (0 : Int))).1.2))
                                x97.2.1.1,
                              ()),
                            (x97.2.1.1, x97.2.1.2.1, x97.2.1.2.2.1, x97.2.1.2.2.2.1, ()), (), (), ()))
                        fun (x98 : (Int × Unit) × (Int × Int × Int × List ((Int × Int) × List (Int × Int)) × Unit) × Unit × Unit × Unit) =>
                        br (x98.1.1 != x92.1.1) (some ((false, ()), (), (), ()))
                          (rec84
                            ((x98.2.1.1, x98.2.1.2.1, x98.2.1.2.2.1, x98.2.1.2.2.2.1, ()), y87, y88, y89, y90,
                              IntKind.i64.wrap (y91 + (1 : Int)), ()))))
                    none)
                  none)))
      none)
    none)
  (loopN lStoreWhole_L7 K ((y86.1, y86.2.1, y86.2.2.1, y86.2.2.2.1, ()), y87, y88, y89, y90, (0 : Int), ()))
def lStoreWhole_L9 (rec126 : (Int × Int × Int × List ((Int × Int) × List (Int × Int)) × Unit) ×
    List ((Int × Int) × Int) × List ((Int × Int) × Int) × Int × Int × Int × Unit →
  Option
    ((Bool × Unit) ×
      Unit ×
        Unit ×
          Unit)) : (Int × Int × Int × List ((Int × Int) × List (Int × Int)) × Unit) ×
    List ((Int × Int) × Int) × List ((Int × Int) × Int) × Int × Int × Int × Unit →
  Option ((Bool × Unit) × Unit × Unit × Unit) := fun (y128, y129, y130, y131, y132, y133, ()) =>
  br (decide (y133 < (↑y130.length : Int)))
  (br (decide ((0 : Int) ≤ y133))
    (br (decide (y133 < (↑y130.length : Int)))
      (bd
        (grd (lenOk y129 && bufS y129)
          (((getK y129
                  ((y130.getD y133.toNat (((0 : Int), (0 : Int)), (0 : Int))).1.1, (y130.getD y133.toNat (((0 : Int), (0 : Int)), (0 : Int))).1.2)).1,
              (getK y129
                  ((y130.getD y133.toNat (((0 : Int), (0 : Int)), (0 : Int))).1.1, (y130.getD y133.toNat (((0 : Int), (0 : Int)), (0 : Int))).1.2)).2,
              ()),
            (), (), ()))
        fun (x134 : (Int × Bool × Unit) × Unit × Unit × Unit) =>
        br (decide ((0 : Int) ≤ y133))
          (br (decide (y133 < (↑y130.length : Int)))
            (bd
              (grd (stoOk (y128.1, y128.2.1, y128.2.2.1, y128.2.2.2.1, ()))
                ((atV
                      (chnOf y128.2.2.2.1
                        ((y130.getD y133.toNat (((0 : Int), (0 : Int)), (0 : Int))).1.1,
                          (y130.getD y133.toNat (((0 : Int), (0 : Int)), (0 : Int))).1.2))
                      y132,
                    ()),
                  (y128.1, y128.2.1, y128.2.2.1, y128.2.2.2.1, ()), (), (), ()))
              fun (x135 : (Int × Unit) × (Int × Int × Int × List ((Int × Int) × List (Int × Int)) × Unit) × Unit × Unit × Unit) =>
              br (x135.1.1 != x134.1.1) (some ((false, ()), (), (), ()))
                (br (decide ((0 : Int) ≤ y133))
                  (br (decide (y133 < (↑y130.length : Int)))
                    (bd
                      (grd (stoOk (x135.2.1.1, x135.2.1.2.1, x135.2.1.2.2.1, x135.2.1.2.2.2.1, ()))
                        ((atV
                              (chnOf x135.2.1.2.2.2.1
                                ((y130.getD y133.toNat (((0 : Int), (0 : Int)), (0 : Int))).1.1,
                                  (y130.getD y133.toNat (((0 : Int), (0 : Int)), (0 : Int))).1.2))
                              x135.2.1.1,
                            ()),
                          (x135.2.1.1, x135.2.1.2.1, x135.2.1.2.2.1, x135.2.1.2.2.2.1, ()), (), (), ()))
                      fun (x136 : (Int × Unit) × (Int × Int × Int × List ((Int × Int) × List (Int × Int)) × Unit) × Unit × Unit × Unit) =>
                      br (decide ((0 : Int) ≤ y133))
                        (br (decide (y133 < (↑y130.length : Int)))
                          (br (x136.1.1 != (y130.getD y133.toNat (((0 : Int), (0 : Int)), (0 : Int))).2)
                            (some ((false, ()), (), (), ()))
                            (br (decide ((0 : Int) ≤ y133))
                              (br (decide (y133 < (↑y130.length : Int)))
                                (bd
                                  (grd (stoOk (x136.2.1.1, x136.2.1.2.1, x136.2.1.2.2.1, x136.2.1.2.2.2.1, ()))
                                    ((newS
                                          (chnOf x136.2.1.2.2.2.1
                                            ((y130.getD y133.toNat (((0 : Int), (0 : Int)), (0 : Int))).1.1,
                                              (y130.getD y133.toNat (((0 : Int), (0 : Int)), (0 : Int))).1.2)),
                                        ()),
                                      (x136.2.1.1, x136.2.1.2.1, x136.2.1.2.2.1, x136.2.1.2.2.2.1, ()), (), ()))
                                  fun (x137 : (Int × Unit) × (Int × Int × Int × List ((Int × Int) × List (Int × Int)) × Unit) × Unit × Unit) =>
                                  br (x137.1.1 != y131) (some ((false, ()), (), (), ()))
                                    (rec126
                                      ((x137.2.1.1, x137.2.1.2.1, x137.2.1.2.2.1, x137.2.1.2.2.2.1, ()), y129, y130, y131, y132,
                                        IntKind.i64.wrap (y133 + (1 : Int)), ())))
                                none)
                              none))
                          none)
                        none)
                    none)
                  none))
            none)
          none)
      none)
    none)
  (some ((y128.2.1 == IntKind.i64.wrap ((↑y129.length : Int) + (↑y130.length : Int)), ()), (), (), ()))
def lStoreWhole_L10 (K : Nat) (rec111 : (Int × Int × Int × List ((Int × Int) × List (Int × Int)) × Unit) ×
    List ((Int × Int) × Int) × List ((Int × Int) × Int) × Int × Int × Int × Unit →
  Option
    ((Bool × Unit) ×
      Unit ×
        Unit ×
          Unit)) : (Int × Int × Int × List ((Int × Int) × List (Int × Int)) × Unit) ×
    List ((Int × Int) × Int) × List ((Int × Int) × Int) × Int × Int × Int × Unit →
  Option ((Bool × Unit) × Unit × Unit × Unit) := fun (y113, y114, y115, y116, y117, y118, ()) =>
  br (decide (y118 < (↑y114.length : Int)))
  (br (decide ((0 : Int) ≤ y118))
    (br (decide (y118 < (↑y114.length : Int)))
      (bd
        (grd (lenOk y115 && bufS y115)
          (((getK y115
                  ((y114.getD y118.toNat (((0 : Int), (0 : Int)), (0 : Int))).1.1, (y114.getD y118.toNat (((0 : Int), (0 : Int)), (0 : Int))).1.2)).1,
              (getK y115
                  ((y114.getD y118.toNat (((0 : Int), (0 : Int)), (0 : Int))).1.1, (y114.getD y118.toNat (((0 : Int), (0 : Int)), (0 : Int))).1.2)).2,
              ()),
            (), (), ()))
        fun (x119 : (Int × Bool × Unit) × Unit × Unit × Unit) =>
        br (!x119.1.2.1)
          (br (decide ((0 : Int) ≤ y118))
            (br (decide (y118 < (↑y114.length : Int)))
              (bd
                (grd (stoOk (y113.1, y113.2.1, y113.2.2.1, y113.2.2.2.1, ()))
                  ((atV
                        (chnOf y113.2.2.2.1
                          ((y114.getD y118.toNat (((0 : Int), (0 : Int)), (0 : Int))).1.1,
                            (y114.getD y118.toNat (((0 : Int), (0 : Int)), (0 : Int))).1.2))
                        (7 : Int),
                      ()),
                    (y113.1, y113.2.1, y113.2.2.1, y113.2.2.2.1, ()), (), (), ()))
                fun (x120 : (Int × Unit) × (Int × Int × Int × List ((Int × Int) × List (Int × Int)) × Unit) × Unit × Unit × Unit) =>
                br (x120.1.1 != (0 : Int)) (some ((false, ()), (), (), ()))
                  (bd
                    (grd (stoOk (x120.2.1.1, x120.2.1.2.1, x120.2.1.2.2.1, x120.2.1.2.2.2.1, ()))
                      ((atV
                            (chnOf x120.2.1.2.2.2.1
                              ((y114.getD y118.toNat (((0 : Int), (0 : Int)), (0 : Int))).1.1,
                                (y114.getD y118.toNat (((0 : Int), (0 : Int)), (0 : Int))).1.2))
                            y117,
                          ()),
                        (x120.2.1.1, x120.2.1.2.1, x120.2.1.2.2.1, x120.2.1.2.2.2.1, ()), (), (), ()))
                    fun (x121 : (Int × Unit) × (Int × Int × Int × List ((Int × Int) × List (Int × Int)) × Unit) × Unit × Unit × Unit) =>
                    br (decide ((0 : Int) ≤ y118))
                      (br (decide (y118 < (↑y114.length : Int)))
                        (br (x121.1.1 != (y114.getD y118.toNat (((0 : Int), (0 : Int)), (0 : Int))).2)
                          (some ((false, ()), (), (), ()))
                          (bd
                            (grd (stoOk (x121.2.1.1, x121.2.1.2.1, x121.2.1.2.2.1, x121.2.1.2.2.2.1, ()))
                              ((atV
                                    (chnOf x121.2.1.2.2.2.1
                                      ((y114.getD y118.toNat (((0 : Int), (0 : Int)), (0 : Int))).1.1,
                                        (y114.getD y118.toNat (((0 : Int), (0 : Int)), (0 : Int))).1.2))
                                    x121.2.1.1,
                                  ()),
                                (x121.2.1.1, x121.2.1.2.1, x121.2.1.2.2.1, x121.2.1.2.2.2.1, ()), (), (), ()))
                            fun (x122 : (Int × Unit) × (Int × Int × Int × List ((Int × Int) × List (Int × Int)) × Unit) × Unit × Unit × Unit) =>
                            br (x122.1.1 != (y114.getD y118.toNat (((0 : Int), (0 : Int)), (0 : Int))).2)
                              (some ((false, ()), (), (), ()))
                              (rec111
                                ((x122.2.1.1, x122.2.1.2.1, x122.2.1.2.2.1, x122.2.1.2.2.2.1, ()), y114, y115, y116, y117,
                                  IntKind.i64.wrap (y118 + (1 : Int)), ()))))
                        none)
                      none))
              none)
            none)
          (bd
            (grd (stoOk (y113.1, y113.2.1, y113.2.2.1, y113.2.2.2.1, ()))
              ((atV
                    (chnOf y113.2.2.2.1
                      ((y114.getD y118.toNat (((0 : Int), (0 : Int)), (0 : Int))).1.1,
                        (y114.getD y118.toNat (((0 : Int), (0 : Int)), (0 : Int))).1.2))
                    (7 : Int),
                  ()),
                (y113.1, y113.2.1, y113.2.2.1, y113.2.2.2.1, ()), (), (), ()))
            fun (x123 : (Int × Unit) × (Int × Int × Int × List ((Int × Int) × List (Int × Int)) × Unit) × Unit × Unit × Unit) =>
            br (x123.1.1 != (0 : Int)) (some ((false, ()), (), (), ()))
              (bd
                (grd (stoOk (x123.2.1.1, x123.2.1.2.1, x123.2.1.2.2.1, x123.2.1.2.2.2.1, ()))
                  ((atV
                        (chnOf x123.2.1.2.2.2.1
                          ((y114.getD y118.toNat (((0 : Int), (0 : Int)), (0 : Int))).1.1,
                            (y114.getD y118.toNat (((0 : Int), (0 : Int)), (0 : Int))).1.2))
                        y117,
                      ()),
                    (x123.2.1.1, x123.2.1.2.1, x123.2.1.2.2.1, x123.2.1.2.2.2.1, ()), (), (), ()))
                fun (x124 : (Int × Unit) × (Int × Int × Int × List ((Int × Int) × List (Int × Int)) × Unit) × Unit × Unit × Unit) =>
                br (decide ((0 : Int) ≤ y118))
                  (br (decide (y118 < (↑y114.length : Int)))
                    (br (x124.1.1 != (y114.getD y118.toNat (((0 : Int), (0 : Int)), (0 : Int))).2)
                      (some ((false, ()), (), (), ()))
                      (bd
                        (grd (stoOk (x124.2.1.1, x124.2.1.2.1, x124.2.1.2.2.1, x124.2.1.2.2.2.1, ()))
                          ((atV
                                (chnOf x124.2.1.2.2.2.1
                                  ((y114.getD y118.toNat (((0 : Int), (0 : Int)), (0 : Int))).1.1,
                                    (y114.getD y118.toNat (((0 : Int), (0 : Int)), (0 : Int))).1.2))
                                x124.2.1.1,
                              ()),
                            (x124.2.1.1, x124.2.1.2.1, x124.2.1.2.2.1, x124.2.1.2.2.2.1, ()), (), (), ()))
                        fun (x125 : (Int × Unit) × (Int × Int × Int × List ((Int × Int) × List (Int × Int)) × Unit) × Unit × Unit × Unit) =>
                        br (x125.1.1 != x119.1.1) (some ((false, ()), (), (), ()))
                          (rec111
                            ((x125.2.1.1, x125.2.1.2.1, x125.2.1.2.2.1, x125.2.1.2.2.2.1, ()), y114, y115, y116, y117,
                              IntKind.i64.wrap (y118 + (1 : Int)), ()))))
                    none)
                  none)))
      none)
    none)
  (loopN lStoreWhole_L9 K ((y113.1, y113.2.1, y113.2.2.1, y113.2.2.2.1, ()), y114, y115, y116, y117, (0 : Int), ()))
def lStoreWhole_L11 (rec153 : (Int × Int × Int × List ((Int × Int) × List (Int × Int)) × Unit) ×
    List ((Int × Int) × Int) × List ((Int × Int) × Int) × Int × Int × Int × Unit →
  Option
    ((Bool × Unit) ×
      Unit ×
        Unit ×
          Unit)) : (Int × Int × Int × List ((Int × Int) × List (Int × Int)) × Unit) ×
    List ((Int × Int) × Int) × List ((Int × Int) × Int) × Int × Int × Int × Unit →
  Option ((Bool × Unit) × Unit × Unit × Unit) := fun (y155, y156, y157, y158, y159, y160, ()) =>
  br (decide (y160 < (↑y157.length : Int)))
  (br (decide ((0 : Int) ≤ y160))
    (br (decide (y160 < (↑y157.length : Int)))
      (bd
        (grd (lenOk y156 && bufS y156)
          (((getK y156
                  ((y157.getD y160.toNat (((0 : Int), (0 : Int)), (0 : Int))).1.1, (y157.getD y160.toNat (((0 : Int), (0 : Int)), (0 : Int))).1.2)).1,
              (getK y156
                  ((y157.getD y160.toNat (((0 : Int), (0 : Int)), (0 : Int))).1.1, (y157.getD y160.toNat (((0 : Int), (0 : Int)), (0 : Int))).1.2)).2,
              ()),
            (), (), ()))
        fun (x161 : (Int × Bool × Unit) × Unit × Unit × Unit) =>
        br (decide ((0 : Int) ≤ y160))
          (br (decide (y160 < (↑y157.length : Int)))
            (bd
              (grd (stoOk (y155.1, y155.2.1, y155.2.2.1, y155.2.2.2.1, ()))
                ((atV
                      (chnOf y155.2.2.2.1
                        ((y157.getD y160.toNat (((0 : Int), (0 : Int)), (0 : Int))).1.1,
                          (y157.getD y160.toNat (((0 : Int), (0 : Int)), (0 : Int))).1.2))
                      y159,
                    ()),
                  (y155.1, y155.2.1, y155.2.2.1, y155.2.2.2.1, ()), (), (), ()))
              fun (x162 : (Int × Unit) × (Int × Int × Int × List ((Int × Int) × List (Int × Int)) × Unit) × Unit × Unit × Unit) =>
              br (x162.1.1 != x161.1.1) (some ((false, ()), (), (), ()))
                (br (decide ((0 : Int) ≤ y160))
                  (br (decide (y160 < (↑y157.length : Int)))
                    (bd
                      (grd (stoOk (x162.2.1.1, x162.2.1.2.1, x162.2.1.2.2.1, x162.2.1.2.2.2.1, ()))
                        ((atV
                              (chnOf x162.2.1.2.2.2.1
                                ((y157.getD y160.toNat (((0 : Int), (0 : Int)), (0 : Int))).1.1,
                                  (y157.getD y160.toNat (((0 : Int), (0 : Int)), (0 : Int))).1.2))
                              x162.2.1.1,
                            ()),
                          (x162.2.1.1, x162.2.1.2.1, x162.2.1.2.2.1, x162.2.1.2.2.2.1, ()), (), (), ()))
                      fun (x163 : (Int × Unit) × (Int × Int × Int × List ((Int × Int) × List (Int × Int)) × Unit) × Unit × Unit × Unit) =>
                      br (decide ((0 : Int) ≤ y160))
                        (br (decide (y160 < (↑y157.length : Int)))
                          (br (x163.1.1 != (y157.getD y160.toNat (((0 : Int), (0 : Int)), (0 : Int))).2)
                            (some ((false, ()), (), (), ()))
                            (br (decide ((0 : Int) ≤ y160))
                              (br (decide (y160 < (↑y157.length : Int)))
                                (bd
                                  (grd (stoOk (x163.2.1.1, x163.2.1.2.1, x163.2.1.2.2.1, x163.2.1.2.2.2.1, ()))
                                    ((newS
                                          (chnOf x163.2.1.2.2.2.1
                                            ((y157.getD y160.toNat (((0 : Int), (0 : Int)), (0 : Int))).1.1,
                                              (y157.getD y160.toNat (((0 : Int), (0 : Int)), (0 : Int))).1.2)),
                                        ()),
                                      (x163.2.1.1, x163.2.1.2.1, x163.2.1.2.2.1, x163.2.1.2.2.2.1, ()), (), ()))
                                  fun (x164 : (Int × Unit) × (Int × Int × Int × List ((Int × Int) × List (Int × Int)) × Unit) × Unit × Unit) =>
                                  br (x164.1.1 != y158) (some ((false, ()), (), (), ()))
                                    (rec153
                                      ((x164.2.1.1, x164.2.1.2.1, x164.2.1.2.2.1, x164.2.1.2.2.2.1, ()), y156, y157, y158, y159,
                                        IntKind.i64.wrap (y160 + (1 : Int)), ())))
                                none)
                              none))
                          none)
                        none)
                    none)
                  none))
            none)
          none)
      none)
    none)
  (some ((y155.2.1 == IntKind.i64.wrap ((↑y156.length : Int) + (↑y157.length : Int)), ()), (), (), ()))
def lStoreWhole_L12 (K : Nat) (rec138 : (Int × Int × Int × List ((Int × Int) × List (Int × Int)) × Unit) ×
    List ((Int × Int) × Int) × List ((Int × Int) × Int) × Int × Int × Int × Unit →
  Option
    ((Bool × Unit) ×
      Unit ×
        Unit ×
          Unit)) : (Int × Int × Int × List ((Int × Int) × List (Int × Int)) × Unit) ×
    List ((Int × Int) × Int) × List ((Int × Int) × Int) × Int × Int × Int × Unit →
  Option ((Bool × Unit) × Unit × Unit × Unit) := fun (y140, y141, y142, y143, y144, y145, ()) =>
  br (decide (y145 < (↑y141.length : Int)))
  (br (decide ((0 : Int) ≤ y145))
    (br (decide (y145 < (↑y141.length : Int)))
      (bd
        (grd (lenOk y142 && bufS y142)
          (((getK y142
                  ((y141.getD y145.toNat (((0 : Int), (0 : Int)), (0 : Int))).1.1, (y141.getD y145.toNat (((0 : Int), (0 : Int)), (0 : Int))).1.2)).1,
              (getK y142
                  ((y141.getD y145.toNat (((0 : Int), (0 : Int)), (0 : Int))).1.1, (y141.getD y145.toNat (((0 : Int), (0 : Int)), (0 : Int))).1.2)).2,
              ()),
            (), (), ()))
        fun (x146 : (Int × Bool × Unit) × Unit × Unit × Unit) =>
        br (!x146.1.2.1)
          (br (decide ((0 : Int) ≤ y145))
            (br (decide (y145 < (↑y141.length : Int)))
              (bd
                (grd (stoOk (y140.1, y140.2.1, y140.2.2.1, y140.2.2.2.1, ()))
                  ((atV
                        (chnOf y140.2.2.2.1
                          ((y141.getD y145.toNat (((0 : Int), (0 : Int)), (0 : Int))).1.1,
                            (y141.getD y145.toNat (((0 : Int), (0 : Int)), (0 : Int))).1.2))
                        (7 : Int),
                      ()),
                    (y140.1, y140.2.1, y140.2.2.1, y140.2.2.2.1, ()), (), (), ()))
                fun (x147 : (Int × Unit) × (Int × Int × Int × List ((Int × Int) × List (Int × Int)) × Unit) × Unit × Unit × Unit) =>
                br (x147.1.1 != (0 : Int)) (some ((false, ()), (), (), ()))
                  (bd
                    (grd (stoOk (x147.2.1.1, x147.2.1.2.1, x147.2.1.2.2.1, x147.2.1.2.2.2.1, ()))
                      ((atV
                            (chnOf x147.2.1.2.2.2.1
                              ((y141.getD y145.toNat (((0 : Int), (0 : Int)), (0 : Int))).1.1,
                                (y141.getD y145.toNat (((0 : Int), (0 : Int)), (0 : Int))).1.2))
                            y144,
                          ()),
                        (x147.2.1.1, x147.2.1.2.1, x147.2.1.2.2.1, x147.2.1.2.2.2.1, ()), (), (), ()))
                    fun (x148 : (Int × Unit) × (Int × Int × Int × List ((Int × Int) × List (Int × Int)) × Unit) × Unit × Unit × Unit) =>
                    br (decide ((0 : Int) ≤ y145))
                      (br (decide (y145 < (↑y141.length : Int)))
                        (br (x148.1.1 != (y141.getD y145.toNat (((0 : Int), (0 : Int)), (0 : Int))).2)
                          (some ((false, ()), (), (), ()))
                          (bd
                            (grd (stoOk (x148.2.1.1, x148.2.1.2.1, x148.2.1.2.2.1, x148.2.1.2.2.2.1, ()))
                              ((atV
                                    (chnOf x148.2.1.2.2.2.1
                                      ((y141.getD y145.toNat (((0 : Int), (0 : Int)), (0 : Int))).1.1,
                                        (y141.getD y145.toNat (((0 : Int), (0 : Int)), (0 : Int))).1.2))
                                    x148.2.1.1,
                                  ()),
                                (x148.2.1.1, x148.2.1.2.1, x148.2.1.2.2.1, x148.2.1.2.2.2.1, ()), (), (), ()))
                            fun (x149 : (Int × Unit) × (Int × Int × Int × List ((Int × Int) × List (Int × Int)) × Unit) × Unit × Unit × Unit) =>
                            br (x149.1.1 != (y141.getD y145.toNat (((0 : Int), (0 : Int)), (0 : Int))).2)
                              (some ((false, ()), (), (), ()))
                              (rec138
                                ((x149.2.1.1, x149.2.1.2.1, x149.2.1.2.2.1, x149.2.1.2.2.2.1, ()), y141, y142, y143, y144,
                                  IntKind.i64.wrap (y145 + (1 : Int)), ()))))
                        none)
                      none))
              none)
            none)
          (bd
            (grd (stoOk (y140.1, y140.2.1, y140.2.2.1, y140.2.2.2.1, ()))
              ((atV
                    (chnOf y140.2.2.2.1
                      ((y141.getD y145.toNat (((0 : Int), (0 : Int)), (0 : Int))).1.1,
                        (y141.getD y145.toNat (((0 : Int), (0 : Int)), (0 : Int))).1.2))
                    (7 : Int),
                  ()),
                (y140.1, y140.2.1, y140.2.2.1, y140.2.2.2.1, ()), (), (), ()))
            fun (x150 : (Int × Unit) × (Int × Int × Int × List ((Int × Int) × List (Int × Int)) × Unit) × Unit × Unit × Unit) =>
            br (x150.1.1 != (0 : Int)) (some ((false, ()), (), (), ()))
              (bd
                (grd (stoOk (x150.2.1.1, x150.2.1.2.1, x150.2.1.2.2.1, x150.2.1.2.2.2.1, ()))
                  ((atV
                        (chnOf x150.2.1.2.2.2.1
                          ((y141.getD y145.toNat (((0 : Int), (0 : Int)), (0 : Int))).1.1,
                            (y141.getD y145.toNat (((0 : Int), (0 : Int)), (0 : Int))).1.2))
                        y144,
                      ()),
                    (x150.2.1.1, x150.2.1.2.1, x150.2.1.2.2.1, x150.2.1.2.2.2.1, ()), (), (), ()))
                fun (x151 : (Int × Unit) × (Int × Int × Int × List ((Int × Int) × List (Int × Int)) × Unit) × Unit × Unit × Unit) =>
                br (decide ((0 : Int) ≤ y145))
                  (br (decide (y145 < (↑y141.length : Int)))
                    (br (x151.1.1 != (y141.getD y145.toNat (((0 : Int), (0 : Int)), (0 : Int))).2)
                      (some ((false, ()), (), (), ()))
                      (bd
                        (grd (stoOk (x151.2.1.1, x151.2.1.2.1, x151.2.1.2.2.1, x151.2.1.2.2.2.1, ()))
                          ((atV
                                (chnOf x151.2.1.2.2.2.1
                                  ((y141.getD y145.toNat (((0 : Int), (0 : Int)), (0 : Int))).1.1,
                                    (y141.getD y145.toNat (((0 : Int), (0 : Int)), (0 : Int))).1.2))
                                x151.2.1.1,
                              ()),
                            (x151.2.1.1, x151.2.1.2.1, x151.2.1.2.2.1, x151.2.1.2.2.2.1, ()), (), (), ()))
                        fun (x152 : (Int × Unit) × (Int × Int × Int × List ((Int × Int) × List (Int × Int)) × Unit) × Unit × Unit × Unit) =>
                        br (x152.1.1 != x146.1.1) (some ((false, ()), (), (), ()))
                          (rec138
                            ((x152.2.1.1, x152.2.1.2.1, x152.2.1.2.2.1, x152.2.1.2.2.2.1, ()), y141, y142, y143, y144,
                              IntKind.i64.wrap (y145 + (1 : Int)), ()))))
                    none)
                  none)))
      none)
    none)
  (loopN lStoreWhole_L11 K ((y140.1, y140.2.1, y140.2.2.1, y140.2.2.2.1, ()), y141, y142, y143, y144, (0 : Int), ()))
def lStoreWhole_L13 (rec180 : (Int × Int × Int × List ((Int × Int) × List (Int × Int)) × Unit) ×
    List ((Int × Int) × Int) × List ((Int × Int) × Int) × Int × Int × Int × Unit →
  Option
    ((Bool × Unit) ×
      Unit ×
        Unit ×
          Unit)) : (Int × Int × Int × List ((Int × Int) × List (Int × Int)) × Unit) ×
    List ((Int × Int) × Int) × List ((Int × Int) × Int) × Int × Int × Int × Unit →
  Option ((Bool × Unit) × Unit × Unit × Unit) := fun (y182, y183, y184, y185, y186, y187, ()) =>
  br (decide (y187 < (↑y184.length : Int)))
  (br (decide ((0 : Int) ≤ y187))
    (br (decide (y187 < (↑y184.length : Int)))
      (bd
        (grd (lenOk y183 && bufS y183)
          (((getK y183
                  ((y184.getD y187.toNat (((0 : Int), (0 : Int)), (0 : Int))).1.1, (y184.getD y187.toNat (((0 : Int), (0 : Int)), (0 : Int))).1.2)).1,
              (getK y183
                  ((y184.getD y187.toNat (((0 : Int), (0 : Int)), (0 : Int))).1.1, (y184.getD y187.toNat (((0 : Int), (0 : Int)), (0 : Int))).1.2)).2,
              ()),
            (), (), ()))
        fun (x188 : (Int × Bool × Unit) × Unit × Unit × Unit) =>
        br (decide ((0 : Int) ≤ y187))
          (br (decide (y187 < (↑y184.length : Int)))
            (bd
              (grd (stoOk (y182.1, y182.2.1, y182.2.2.1, y182.2.2.2.1, ()))
                ((atV
                      (chnOf y182.2.2.2.1
                        ((y184.getD y187.toNat (((0 : Int), (0 : Int)), (0 : Int))).1.1,
                          (y184.getD y187.toNat (((0 : Int), (0 : Int)), (0 : Int))).1.2))
                      y186,
                    ()),
                  (y182.1, y182.2.1, y182.2.2.1, y182.2.2.2.1, ()), (), (), ()))
              fun (x189 : (Int × Unit) × (Int × Int × Int × List ((Int × Int) × List (Int × Int)) × Unit) × Unit × Unit × Unit) =>
              br (x189.1.1 != x188.1.1) (some ((false, ()), (), (), ()))
                (br (decide ((0 : Int) ≤ y187))
                  (br (decide (y187 < (↑y184.length : Int)))
                    (bd
                      (grd (stoOk (x189.2.1.1, x189.2.1.2.1, x189.2.1.2.2.1, x189.2.1.2.2.2.1, ()))
                        ((atV
                              (chnOf x189.2.1.2.2.2.1
                                ((y184.getD y187.toNat (((0 : Int), (0 : Int)), (0 : Int))).1.1,
                                  (y184.getD y187.toNat (((0 : Int), (0 : Int)), (0 : Int))).1.2))
                              x189.2.1.1,
                            ()),
                          (x189.2.1.1, x189.2.1.2.1, x189.2.1.2.2.1, x189.2.1.2.2.2.1, ()), (), (), ()))
                      fun (x190 : (Int × Unit) × (Int × Int × Int × List ((Int × Int) × List (Int × Int)) × Unit) × Unit × Unit × Unit) =>
                      br (decide ((0 : Int) ≤ y187))
                        (br (decide (y187 < (↑y184.length : Int)))
                          (br (x190.1.1 != (y184.getD y187.toNat (((0 : Int), (0 : Int)), (0 : Int))).2)
                            (some ((false, ()), (), (), ()))
                            (br (decide ((0 : Int) ≤ y187))
                              (br (decide (y187 < (↑y184.length : Int)))
                                (bd
                                  (grd (stoOk (x190.2.1.1, x190.2.1.2.1, x190.2.1.2.2.1, x190.2.1.2.2.2.1, ()))
                                    ((newS
                                          (chnOf x190.2.1.2.2.2.1
                                            ((y184.getD y187.toNat (((0 : Int), (0 : Int)), (0 : Int))).1.1,
                                              (y184.getD y187.toNat (((0 : Int), (0 : Int)), (0 : Int))).1.2)),
                                        ()),
                                      (x190.2.1.1, x190.2.1.2.1, x190.2.1.2.2.1, x190.2.1.2.2.2.1, ()), (), ()))
                                  fun (x191 : (Int × Unit) × (Int × Int × Int × List ((Int × Int) × List (Int × Int)) × Unit) × Unit × Unit) =>
                                  br (x191.1.1 != y185) (some ((false, ()), (), (), ()))
                                    (rec180
                                      ((x191.2.1.1, x191.2.1.2.1, x191.2.1.2.2.1, x191.2.1.2.2.2.1, ()), y183, y184, y185, y186,
                                        IntKind.i64.wrap (y187 + (1 : Int)), ())))
                                none)
                              none))
                          none)
                        none)
                    none)
                  none))
            none)
          none)
      none)
    none)
  (some ((y182.2.1 == IntKind.i64.wrap ((↑y183.length : Int) + (↑y184.length : Int)), ()), (), (), ()))
def lStoreWhole_L14 (K : Nat) (rec165 : (Int × Int × Int × List ((Int × Int) × List (Int × Int)) × Unit) ×
    List ((Int × Int) × Int) × List ((Int × Int) × Int) × Int × Int × Int × Unit →
  Option
    ((Bool × Unit) ×
      Unit ×
        Unit ×
          Unit)) : (Int × Int × Int × List ((Int × Int) × List (Int × Int)) × Unit) ×
    List ((Int × Int) × Int) × List ((Int × Int) × Int) × Int × Int × Int × Unit →
  Option ((Bool × Unit) × Unit × Unit × Unit) := fun (y167, y168, y169, y170, y171, y172, ()) =>
  br (decide (y172 < (↑y168.length : Int)))
  (br (decide ((0 : Int) ≤ y172))
    (br (decide (y172 < (↑y168.length : Int)))
      (bd
        (grd (lenOk y169 && bufS y169)
          (((getK y169
                  ((y168.getD y172.toNat (((0 : Int), (0 : Int)), (0 : Int))).1.1, (y168.getD y172.toNat (((0 : Int), (0 : Int)), (0 : Int))).1.2)).1,
              (getK y169
                  ((y168.getD y172.toNat (((0 : Int), (0 : Int)), (0 : Int))).1.1, (y168.getD y172.toNat (((0 : Int), (0 : Int)), (0 : Int))).1.2)).2,
              ()),
            (), (), ()))
        fun (x173 : (Int × Bool × Unit) × Unit × Unit × Unit) =>
        br (!x173.1.2.1)
          (br (decide ((0 : Int) ≤ y172))
            (br (decide (y172 < (↑y168.length : Int)))
              (bd
                (grd (stoOk (y167.1, y167.2.1, y167.2.2.1, y167.2.2.2.1, ()))
                  ((atV
                        (chnOf y167.2.2.2.1
                          ((y168.getD y172.toNat (((0 : Int), (0 : Int)), (0 : Int))).1.1,
                            (y168.getD y172.toNat (((0 : Int), (0 : Int)), (0 : Int))).1.2))
                        (7 : Int),
                      ()),
                    (y167.1, y167.2.1, y167.2.2.1, y167.2.2.2.1, ()), (), (), ()))
                fun (x174 : (Int × Unit) × (Int × Int × Int × List ((Int × Int) × List (Int × Int)) × Unit) × Unit × Unit × Unit) =>
                br (x174.1.1 != (0 : Int)) (some ((false, ()), (), (), ()))
                  (bd
                    (grd (stoOk (x174.2.1.1, x174.2.1.2.1, x174.2.1.2.2.1, x174.2.1.2.2.2.1, ()))
                      ((atV
                            (chnOf x174.2.1.2.2.2.1
                              ((y168.getD y172.toNat (((0 : Int), (0 : Int)), (0 : Int))).1.1,
                                (y168.getD y172.toNat (((0 : Int), (0 : Int)), (0 : Int))).1.2))
                            y171,
                          ()),
                        (x174.2.1.1, x174.2.1.2.1, x174.2.1.2.2.1, x174.2.1.2.2.2.1, ()), (), (), ()))
                    fun (x175 : (Int × Unit) × (Int × Int × Int × List ((Int × Int) × List (Int × Int)) × Unit) × Unit × Unit × Unit) =>
                    br (decide ((0 : Int) ≤ y172))
                      (br (decide (y172 < (↑y168.length : Int)))
                        (br (x175.1.1 != (y168.getD y172.toNat (((0 : Int), (0 : Int)), (0 : Int))).2)
                          (some ((false, ()), (), (), ()))
                          (bd
                            (grd (stoOk (x175.2.1.1, x175.2.1.2.1, x175.2.1.2.2.1, x175.2.1.2.2.2.1, ()))
                              ((atV
                                    (chnOf x175.2.1.2.2.2.1
                                      ((y168.getD y172.toNat (((0 : Int), (0 : Int)), (0 : Int))).1.1,
                                        (y168.getD y172.toNat (((0 : Int), (0 : Int)), (0 : Int))).1.2))
                                    x175.2.1.1,
                                  ()),
                                (x175.2.1.1, x175.2.1.2.1, x175.2.1.2.2.1, x175.2.1.2.2.2.1, ()), (), (), ()))
                            fun (x176 : (Int × Unit) × (Int × Int × Int × List ((Int × Int) × List (Int × Int)) × Unit) × Unit × Unit × Unit) =>
                            br (x176.1.1 != (y168.getD y172.toNat (((0 : Int), (0 : Int)), (0 : Int))).2)
                              (some ((false, ()), (), (), ()))
                              (rec165
                                ((x176.2.1.1, x176.2.1.2.1, x176.2.1.2.2.1, x176.2.1.2.2.2.1, ()), y168, y169, y170, y171,
                                  IntKind.i64.wrap (y172 + (1 : Int)), ()))))
                        none)
                      none))
              none)
            none)
          (bd
            (grd (stoOk (y167.1, y167.2.1, y167.2.2.1, y167.2.2.2.1, ()))
              ((atV
                    (chnOf y167.2.2.2.1
                      ((y168.getD y172.toNat (((0 : Int), (0 : Int)), (0 : Int))).1.1,
                        (y168.getD y172.toNat (((0 : Int), (0 : Int)), (0 : Int))).1.2))
                    (7 : Int),
                  ()),
                (y167.1, y167.2.1, y167.2.2.1, y167.2.2.2.1, ()), (), (), ()))
            fun (x177 : (Int × Unit) × (Int × Int × Int × List ((Int × Int) × List (Int × Int)) × Unit) × Unit × Unit × Unit) =>
            br (x177.1.1 != (0 : Int)) (some ((false, ()), (), (), ()))
              (bd
                (grd (stoOk (x177.2.1.1, x177.2.1.2.1, x177.2.1.2.2.1, x177.2.1.2.2.2.1, ()))
                  ((atV
                        (chnOf x177.2.1.2.2.2.1
                          ((y168.getD y172.toNat (((0 : Int), (0 : Int)), (0 : Int))).1.1,
                            (y168.getD y172.toNat (((0 : Int), (0 : Int)), (0 : Int))).1.2))
                        y171,
                      ()),
                    (x177.2.1.1, x177.2.1.2.1, x177.2.1.2.2.1, x177.2.1.2.2.2.1, ()), (), (), ()))
                fun (x178 : (Int × Unit) × (Int × Int × Int × List ((Int × Int) × List (Int × Int)) × Unit) × Unit × Unit × Unit) =>
                br (decide ((0 : Int) ≤ y172))
                  (br (decide (y172 < (↑y168.length : Int)))
                    (br (x178.1.1 != (y168.getD y172.toNat (((0 : Int), (0 : Int)), (0 : Int))).2)
                      (some ((false, ()), (), (), ()))
                      (bd
                        (grd (stoOk (x178.2.1.1, x178.2.1.2.1, x178.2.1.2.2.1, x178.2.1.2.2.2.1, ()))
                          ((atV
                                (chnOf x178.2.1.2.2.2.1
                                  ((y168.getD y172.toNat (((0 : Int), (0 : Int)), (0 : Int))).1.1,
                                    (y168.getD y172.toNat (((0 : Int), (0 : Int)), (0 : Int))).1.2))
                                x178.2.1.1,
                              ()),
                            (x178.2.1.1, x178.2.1.2.1, x178.2.1.2.2.1, x178.2.1.2.2.2.1, ()), (), (), ()))
                        fun (x179 : (Int × Unit) × (Int × Int × Int × List ((Int × Int) × List (Int × Int)) × Unit) × Unit × Unit × Unit) =>
                        br (x179.1.1 != x173.1.1) (some ((false, ()), (), (), ()))
                          (rec165
                            ((x179.2.1.1, x179.2.1.2.1, x179.2.1.2.2.1, x179.2.1.2.2.2.1, ()), y168, y169, y170, y171,
                              IntKind.i64.wrap (y172 + (1 : Int)), ()))))
                    none)
                  none)))
      none)
    none)
  (loopN lStoreWhole_L13 K ((y167.1, y167.2.1, y167.2.2.1, y167.2.2.2.1, ()), y168, y169, y170, y171, (0 : Int), ()))
def lStoreWhole_L15 (rec207 : (Int × Int × Int × List ((Int × Int) × List (Int × Int)) × Unit) ×
    List ((Int × Int) × Int) × List ((Int × Int) × Int) × Int × Int × Int × Unit →
  Option
    ((Bool × Unit) ×
      Unit ×
        Unit ×
          Unit)) : (Int × Int × Int × List ((Int × Int) × List (Int × Int)) × Unit) ×
    List ((Int × Int) × Int) × List ((Int × Int) × Int) × Int × Int × Int × Unit →
  Option ((Bool × Unit) × Unit × Unit × Unit) := fun (y209, y210, y211, y212, y213, y214, ()) =>
  br (decide (y214 < (↑y211.length : Int)))
  (br (decide ((0 : Int) ≤ y214))
    (br (decide (y214 < (↑y211.length : Int)))
      (bd
        (grd (lenOk y210 && bufS y210)
          (((getK y210
                  ((y211.getD y214.toNat (((0 : Int), (0 : Int)), (0 : Int))).1.1, (y211.getD y214.toNat (((0 : Int), (0 : Int)), (0 : Int))).1.2)).1,
              (getK y210
                  ((y211.getD y214.toNat (((0 : Int), (0 : Int)), (0 : Int))).1.1, (y211.getD y214.toNat (((0 : Int), (0 : Int)), (0 : Int))).1.2)).2,
              ()),
            (), (), ()))
        fun (x215 : (Int × Bool × Unit) × Unit × Unit × Unit) =>
        br (decide ((0 : Int) ≤ y214))
          (br (decide (y214 < (↑y211.length : Int)))
            (bd
              (grd (stoOk (y209.1, y209.2.1, y209.2.2.1, y209.2.2.2.1, ()))
                ((atV
                      (chnOf y209.2.2.2.1
                        ((y211.getD y214.toNat (((0 : Int), (0 : Int)), (0 : Int))).1.1,
                          (y211.getD y214.toNat (((0 : Int), (0 : Int)), (0 : Int))).1.2))
                      y213,
                    ()),
                  (y209.1, y209.2.1, y209.2.2.1, y209.2.2.2.1, ()), (), (), ()))
              fun (x216 : (Int × Unit) × (Int × Int × Int × List ((Int × Int) × List (Int × Int)) × Unit) × Unit × Unit × Unit) =>
              br (x216.1.1 != x215.1.1) (some ((false, ()), (), (), ()))
                (br (decide ((0 : Int) ≤ y214))
                  (br (decide (y214 < (↑y211.length : Int)))
                    (bd
                      (grd (stoOk (x216.2.1.1, x216.2.1.2.1, x216.2.1.2.2.1, x216.2.1.2.2.2.1, ()))
                        ((atV
                              (chnOf x216.2.1.2.2.2.1
                                ((y211.getD y214.toNat (((0 : Int), (0 : Int)), (0 : Int))).1.1,
                                  (y211.getD y214.toNat (((0 : Int), (0 : Int)), (0 : Int))).1.2))
                              x216.2.1.1,
                            ()),
                          (x216.2.1.1, x216.2.1.2.1, x216.2.1.2.2.1, x216.2.1.2.2.2.1, ()), (), (), ()))
                      fun (x217 : (Int × Unit) × (Int × Int × Int × List ((Int × Int) × List (Int × Int)) × Unit) × Unit × Unit × Unit) =>
                      br (decide ((0 : Int) ≤ y214))
                        (br (decide (y214 < (↑y211.length : Int)))
                          (br (x217.1.1 != (y211.getD y214.toNat (((0 : Int), (0 : Int)), (0 : Int))).2)
                            (some ((false, ()), (), (), ()))
                            (br (decide ((0 : Int) ≤ y214))
                              (br (decide (y214 < (↑y211.length : Int)))
                                (bd
                                  (grd (stoOk (x217.2.1.1, x217.2.1.2.1, x217.2.1.2.2.1, x217.2.1.2.2.2.1, ()))
                                    ((newS
                                          (chnOf x217.2.1.2.2.2.1
                                            ((y211.getD y214.toNat (((0 : Int), (0 : Int)), (0 : Int))).1.1,
                                              (y211.getD y214.toNat (((0 : Int), (0 : Int)), (0 : Int))).1.2)),
                                        ()),
                                      (x217.2.1.1, x217.2.1.2.1, x217.2.1.2.2.1, x217.2.1.2.2.2.1, ()), (), ()))
                                  fun (x218 : (Int × Unit) × (Int × Int × Int × List ((Int × Int) × List (Int × Int)) × Unit) × Unit × Unit) =>
                                  br (x218.1.1 != y212) (some ((false, ()), (), (), ()))
                                    (rec207
                                      ((x218.2.1.1, x218.2.1.2.1, x218.2.1.2.2.1, x218.2.1.2.2.2.1, ()), y210, y211, y212, y213,
                                        IntKind.i64.wrap (y214 + (1 : Int)), ())))
                                none)
                              none))
                          none)
                        none)
                    none)
                  none))
            none)
          none)
      none)
    none)
  (some ((y209.2.1 == IntKind.i64.wrap ((↑y210.length : Int) + (↑y211.length : Int)), ()), (), (), ()))
def lStoreWhole_L16 (K : Nat) (rec192 : (Int × Int × Int × List ((Int × Int) × List (Int × Int)) × Unit) ×
    List ((Int × Int) × Int) × List ((Int × Int) × Int) × Int × Int × Int × Unit →
  Option
    ((Bool × Unit) ×
      Unit ×
        Unit ×
          Unit)) : (Int × Int × Int × List ((Int × Int) × List (Int × Int)) × Unit) ×
    List ((Int × Int) × Int) × List ((Int × Int) × Int) × Int × Int × Int × Unit →
  Option ((Bool × Unit) × Unit × Unit × Unit) := fun (y194, y195, y196, y197, y198, y199, ()) =>
  br (decide (y199 < (↑y195.length : Int)))
  (br (decide ((0 : Int) ≤ y199))
    (br (decide (y199 < (↑y195.length : Int)))
      (bd
        (grd (lenOk y196 && bufS y196)
          (((getK y196
                  ((y195.getD y199.toNat (((0 : Int), (0 : Int)), (0 : Int))).1.1, (y195.getD y199.toNat (((0 : Int), (0 : Int)), (0 : Int))).1.2)).1,
              (getK y196
                  ((y195.getD y199.toNat (((0 : Int), (0 : Int)), (0 : Int))).1.1, (y195.getD y199.toNat (((0 : Int), (0 : Int)), (0 : Int))).1.2)).2,
              ()),
            (), (), ()))
        fun (x200 : (Int × Bool × Unit) × Unit × Unit × Unit) =>
        br (!x200.1.2.1)
          (br (decide ((0 : Int) ≤ y199))
            (br (decide (y199 < (↑y195.length : Int)))
              (bd
                (grd (stoOk (y194.1, y194.2.1, y194.2.2.1, y194.2.2.2.1, ()))
                  ((atV
                        (chnOf y194.2.2.2.1
                          ((y195.getD y199.toNat (((0 : Int), (0 : Int)), (0 : Int))).1.1,
                            (y195.getD y199.toNat (((0 : Int), (0 : Int)), (0 : Int))).1.2))
                        (7 : Int),
                      ()),
                    (y194.1, y194.2.1, y194.2.2.1, y194.2.2.2.1, ()), (), (), ()))
                fun (x201 : (Int × Unit) × (Int × Int × Int × List ((Int × Int) × List (Int × Int)) × Unit) × Unit × Unit × Unit) =>
                br (x201.1.1 != (0 : Int)) (some ((false, ()), (), (), ()))
                  (bd
                    (grd (stoOk (x201.2.1.1, x201.2.1.2.1, x201.2.1.2.2.1, x201.2.1.2.2.2.1, ()))
                      ((atV
                            (chnOf x201.2.1.2.2.2.1
                              ((y195.getD y199.toNat (((0 : Int), (0 : Int)), (0 : Int))).1.1,
                                (y195.getD y199.toNat (((0 : Int), (0 : Int)), (0 : Int))).1.2))
                            y198,
                          ()),
                        (x201.2.1.1, x201.2.1.2.1, x201.2.1.2.2.1, x201.2.1.2.2.2.1, ()), (), (), ()))
                    fun (x202 : (Int × Unit) × (Int × Int × Int × List ((Int × Int) × List (Int × Int)) × Unit) × Unit × Unit × Unit) =>
                    br (decide ((0 : Int) ≤ y199))
                      (br (decide (y199 < (↑y195.length : Int)))
                        (br (x202.1.1 != (y195.getD y199.toNat (((0 : Int), (0 : Int)), (0 : Int))).2)
                          (some ((false, ()), (), (), ()))
                          (bd
                            (grd (stoOk (x202.2.1.1, x202.2.1.2.1, x202.2.1.2.2.1, x202.2.1.2.2.2.1, ()))
                              ((atV
                                    (chnOf x202.2.1.2.2.2.1
                                      ((y195.getD y199.toNat (((0 : Int), (0 : Int)), (0 : Int))).1.1,
                                        (y195.getD y199.toNat (((0 : Int), (0 : Int)), (0 : Int))).1.2))
                                    x202.2.1.1,
                                  ()),
                                (x202.2.1.1, x202.2.1.2.1, x202.2.1.2.2.1, x202.2.1.2.2.2.1, ()), (), (), ()))
                            fun (x203 : (Int × Unit) × (Int × Int × Int × List ((Int × Int) × List (Int × Int)) × Unit) × Unit × Unit × Unit) =>
                            br (x203.1.1 != (y195.getD y199.toNat (((0 : Int), (0 : Int)), (0 : Int))).2)
                              (some ((false, ()), (), (), ()))
                              (rec192
                                ((x203.2.1.1, x203.2.1.2.1, x203.2.1.2.2.1, x203.2.1.2.2.2.1, ()), y195, y196, y197, y198,
                                  IntKind.i64.wrap (y199 + (1 : Int)), ()))))
                        none)
                      none))
              none)
            none)
          (bd
            (grd (stoOk (y194.1, y194.2.1, y194.2.2.1, y194.2.2.2.1, ()))
              ((atV
                    (chnOf y194.2.2.2.1
                      ((y195.getD y199.toNat (((0 : Int), (0 : Int)), (0 : Int))).1.1,
                        (y195.getD y199.toNat (((0 : Int), (0 : Int)), (0 : Int))).1.2))
                    (7 : Int),
                  ()),
                (y194.1, y194.2.1, y194.2.2.1, y194.2.2.2.1, ()), (), (), ()))
            fun (x204 : (Int × Unit) × (Int × Int × Int × List ((Int × Int) × List (Int × Int)) × Unit) × Unit × Unit × Unit) =>
            br (x204.1.1 != (0 : Int)) (some ((false, ()), (), (), ()))
              (bd
                (grd (stoOk (x204.2.1.1, x204.2.1.2.1, x204.2.1.2.2.1, x204.2.1.2.2.2.1, ()))
                  ((atV
                        (chnOf x204.2.1.2.2.2.1
                          ((y195.getD y199.toNat (((0 : Int), (0 : Int)), (0 : Int))).1.1,
                            (y195.getD y199.toNat (((0 : Int), (0 : Int)), (0 : Int))).1.2))
                        y198,
                      ()),
                    (x204.2.1.1, x204.2.1.2.1, x204.2.1.2.2.1, x204.2.1.2.2.2.1, ()), (), (), ()))
                fun (x205 : (Int × Unit) × (Int × Int × Int × List ((Int × Int) × List (Int × Int)) × Unit) × Unit × Unit × Unit) =>
                br (decide ((0 : Int) ≤ y199))
                  (br (decide (y199 < (↑y195.length : Int)))
                    (br (x205.1.1 != (y195.getD y199.toNat (((0 : Int), (0 : Int)), (0 : Int))).2)
                      (some ((false, ()), (), (), ()))
                      (bd
                        (grd (stoOk (x205.2.1.1, x205.2.1.2.1, x205.2.1.2.2.1, x205.2.1.2.2.2.1, ()))
                          ((atV
                                (chnOf x205.2.1.2.2.2.1
                                  ((y195.getD y199.toNat (((0 : Int), (0 : Int)), (0 : Int))).1.1,
                                    (y195.getD y199.toNat (((0 : Int), (0 : Int)), (0 : Int))).1.2))
                                x205.2.1.1,
                              ()),
                            (x205.2.1.1, x205.2.1.2.1, x205.2.1.2.2.1, x205.2.1.2.2.2.1, ()), (), (), ()))
                        fun (x206 : (Int × Unit) × (Int × Int × Int × List ((Int × Int) × List (Int × Int)) × Unit) × Unit × Unit × Unit) =>
                        br (x206.1.1 != x200.1.1) (some ((false, ()), (), (), ()))
                          (rec192
                            ((x206.2.1.1, x206.2.1.2.1, x206.2.1.2.2.1, x206.2.1.2.2.2.1, ()), y195, y196, y197, y198,
                              IntKind.i64.wrap (y199 + (1 : Int)), ()))))
                    none)
                  none)))
      none)
    none)
  (loopN lStoreWhole_L15 K ((y194.1, y194.2.1, y194.2.2.1, y194.2.2.2.1, ()), y195, y196, y197, y198, (0 : Int), ()))
def lStoreWhole_P (K : Nat) (a0 : List Int) (a1 : List Int) : Option ((Bool × Unit) × Unit × Unit × Unit) :=
  br (decide ((↑a0.length : Int) > (20 : Int))) (some ((true, ()), (), (), ()))
  (br (decide ((↑a1.length : Int) > (20 : Int))) (some ((true, ()), (), (), ()))
    (br (!true) (some ((true, ()), (), (), ()))
      (bd
        (grd
          (stoOk
              ((stNewS (7 : Int) (1000 : Int)).1, (stNewS (7 : Int) (1000 : Int)).2.1, (stNewS (7 : Int) (1000 : Int)).2.2.1,
                (stNewS (7 : Int) (1000 : Int)).2.2.2.1, ()) &&
            lenOk (cellsS a0))
          (((instS
                    ((stNewS (7 : Int) (1000 : Int)).1, (stNewS (7 : Int) (1000 : Int)).2.1, (stNewS (7 : Int) (1000 : Int)).2.2.1,
                      (stNewS (7 : Int) (1000 : Int)).2.2.2.1, ())
                    (cellsS a0)).1.1,
              (instS
                    ((stNewS (7 : Int) (1000 : Int)).1, (stNewS (7 : Int) (1000 : Int)).2.1, (stNewS (7 : Int) (1000 : Int)).2.2.1,
                      (stNewS (7 : Int) (1000 : Int)).2.2.2.1, ())
                    (cellsS a0)).1.2,
              ()),
            (instS
                ((stNewS (7 : Int) (1000 : Int)).1, (stNewS (7 : Int) (1000 : Int)).2.1, (stNewS (7 : Int) (1000 : Int)).2.2.1,
                  (stNewS (7 : Int) (1000 : Int)).2.2.2.1, ())
                (cellsS a0)).2,
            (), ()))
        fun (x1 : (Int × Int × Unit) × (Int × Int × Int × List ((Int × Int) × List (Int × Int)) × Unit) × Unit × Unit) =>
        bd
          (grd (stoOk (x1.2.1.1, x1.2.1.2.1, x1.2.1.2.2.1, x1.2.1.2.2.2.1, ()) && lenOk (cellsS a1))
            (((instS (x1.2.1.1, x1.2.1.2.1, x1.2.1.2.2.1, x1.2.1.2.2.2.1, ()) (cellsS a1)).1.1,
                (instS (x1.2.1.1, x1.2.1.2.1, x1.2.1.2.2.1, x1.2.1.2.2.2.1, ()) (cellsS a1)).1.2, ()),
              (instS (x1.2.1.1, x1.2.1.2.1, x1.2.1.2.2.1, x1.2.1.2.2.2.1, ()) (cellsS a1)).2, (), ()))
          fun (x2 : (Int × Int × Unit) × (Int × Int × Int × List ((Int × Int) × List (Int × Int)) × Unit) × Unit × Unit) =>
          br (!(x1.1.2.1 == (0 : Int)) == decide ((↑(cellsS a0).length : Int) > (0 : Int)))
            (some ((false, ()), (), (), ()))
            (br (!(x2.1.2.1 == (0 : Int)) == decide ((↑(cellsS a1).length : Int) > (0 : Int)))
              (some ((false, ()), (), (), ()))
              (br (x1.1.2.1 == (0 : Int))
                (br (x1.1.1 != (8 : Int)) (some ((false, ()), (), (), ()))
                  (br (x2.1.2.1 == (0 : Int))
                    (br (x2.1.1 != x2.2.1.1) (some ((false, ()), (), (), ()))
                      (br (x1.1.2.1 == (0 : Int))
                        (loopN (lStoreWhole_L2 K) K
                          ((x2.2.1.1, x2.2.1.2.1, x2.2.1.2.2.1, x2.2.1.2.2.2.1, ()), cellsS a0, cellsS a1, x2.1.1, x1.1.1, (0 : Int),
                            ()))
                        (loopN (lStoreWhole_L4 K) K
                          ((x2.2.1.1, x2.2.1.2.1, x2.2.1.2.2.1, x2.2.1.2.2.2.1, ()), cellsS a0, cellsS a1, x2.1.1, (7 : Int), (0 : Int),
                            ()))))
                    (br (x1.1.2.1 == (0 : Int))
                      (loopN (lStoreWhole_L6 K) K
                        ((x2.2.1.1, x2.2.1.2.1, x2.2.1.2.2.1, x2.2.1.2.2.2.1, ()), cellsS a0, cellsS a1, x2.1.1, x1.1.1, (0 : Int),
                          ()))
                      (loopN (lStoreWhole_L8 K) K
                        ((x2.2.1.1, x2.2.1.2.1, x2.2.1.2.2.1, x2.2.1.2.2.2.1, ()), cellsS a0, cellsS a1, x2.1.1, (7 : Int), (0 : Int),
                          ())))))
                (br (x2.1.2.1 == (0 : Int))
                  (br (x2.1.1 != x2.2.1.1) (some ((false, ()), (), (), ()))
                    (br (x1.1.2.1 == (0 : Int))
                      (loopN (lStoreWhole_L10 K) K
                        ((x2.2.1.1, x2.2.1.2.1, x2.2.1.2.2.1, x2.2.1.2.2.2.1, ()), cellsS a0, cellsS a1, x2.1.1, x1.1.1, (0 : Int),
                          ()))
                      (loopN (lStoreWhole_L12 K) K
                        ((x2.2.1.1, x2.2.1.2.1, x2.2.1.2.2.1, x2.2.1.2.2.2.1, ()), cellsS a0, cellsS a1, x2.1.1, (7 : Int), (0 : Int),
                          ()))))
                  (br (x1.1.2.1 == (0 : Int))
                    (loopN (lStoreWhole_L14 K) K
                      ((x2.2.1.1, x2.2.1.2.1, x2.2.1.2.2.1, x2.2.1.2.2.2.1, ()), cellsS a0, cellsS a1, x2.1.1, x1.1.1, (0 : Int), ()))
                    (loopN (lStoreWhole_L16 K) K
                      ((x2.2.1.1, x2.2.1.2.1, x2.2.1.2.2.1, x2.2.1.2.2.2.1, ()), cellsS a0, cellsS a1, x2.1.1, (7 : Int), (0 : Int),
                        ())))))))))
theorem lStoreWhole_rn (K : Nat) (a0 : List
  Int) (a1 : List
  Int) : runF (cfgW g_lStoreWhole) K f_lStoreWhole lStoreWhole_tm [.val (.slice tI), .val (.slice tI)] [.val .bool] (a0, a1, ()) = lStoreWhole_P K a0 a1 := by kernel_rfl
abbrev g_awake17 : List (Nat × Ctr O0) := [(n_stNew, c_stNew), (n_stInstall, c_stInstall), (n_stRead, c_stRead), (n_stVersions, c_stVersions)]
theorem awake17_rn : runF (cfgW g_awake17) 3 f_awake17 [] [] [.val .bool] () = some ((true, ()), ()) := by kernel_rfl
end
end Go.BB
