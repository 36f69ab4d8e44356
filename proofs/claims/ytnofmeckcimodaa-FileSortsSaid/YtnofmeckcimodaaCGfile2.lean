/- A symbolic machine for the model's code, and what it shows of this seat's functions. No conditions. -/
import Derived.Test.YtnofmeckcimodaaCN
import Derived.Test.YtnofmeckcimodaaCSFile
import Derived.Test.YtnofmeckcimodaaCSStore
set_option linter.unusedSimpArgs false
set_option linter.unusedVariables false
namespace Go.BB
open Go Go.Proofs
set_option maxRecDepth 100000
set_option exponentiation.threshold 100000
noncomputable section
abbrev g_lFileSorts : List (Nat × Ctr O0) := [(n_awake27, c_awake27), (n_within, c_within), (n_digit, c_digit), (n_forder, c_forder)]
def lFileSorts_tm : List Tm := [[((0 : Nat), none, Sh.val (Ty.int IntKind.i64).slice),
    ((3 : Nat), none,
      Sh.own
        (Ty.bool.pair
          ((Ty.int IntKind.u64).pair
            ((((Ty.int IntKind.i64).pair
                        ((Ty.int IntKind.i64).pair
                          ((Ty.int IntKind.i64).pair
                            ((Ty.int IntKind.u16).pair
                              ((Ty.int IntKind.u16).pair
                                ((Ty.int IntKind.u16).pair
                                  (Ty.bool.slice.pair
                                    ((Ty.int IntKind.u16).slice.pair
                                      ((Ty.int IntKind.i64).pair
                                        ((Ty.int IntKind.i64).pair ((Ty.int IntKind.i64).pair (Ty.int IntKind.i64)))))))))))).pair
                    ((Ty.int IntKind.i64).pair
                      ((Ty.int IntKind.i64).pair
                        (Ty.bool.slice.pair
                          ((Ty.int IntKind.u16).slice.pair
                            ((Ty.int IntKind.i64).pair
                              ((Ty.int IntKind.i64).pair
                                ((Ty.int IntKind.u16).pair
                                  ((Ty.int IntKind.u16).pair
                                    ((Ty.int IntKind.u16).pair
                                      ((Ty.int IntKind.i64).pair
                                        ((Ty.int IntKind.i64).pair
                                          (Ty.bool.pair ((Ty.int IntKind.i64).pair ((Ty.int IntKind.i64).pair Ty.str).slice)))))))))))))).slice.pair
              (((Ty.int IntKind.i64).pair (Ty.int IntKind.i64)).pair (Ty.int IntKind.u16)).slice)))),
    ((4 : Nat), none, Sh.val (Ty.int IntKind.i64))],
  [((3 : Nat), none,
      Sh.val
        (Ty.bool.pair
            ((Ty.int IntKind.u64).pair
              ((((Ty.int IntKind.i64).pair
                          ((Ty.int IntKind.i64).pair
                            ((Ty.int IntKind.i64).pair
                              ((Ty.int IntKind.u16).pair
                                ((Ty.int IntKind.u16).pair
                                  ((Ty.int IntKind.u16).pair
                                    (Ty.bool.slice.pair
                                      ((Ty.int IntKind.u16).slice.pair
                                        ((Ty.int IntKind.i64).pair
                                          ((Ty.int IntKind.i64).pair ((Ty.int IntKind.i64).pair (Ty.int IntKind.i64)))))))))))).pair
                      ((Ty.int IntKind.i64).pair
                        ((Ty.int IntKind.i64).pair
                          (Ty.bool.slice.pair
                            ((Ty.int IntKind.u16).slice.pair
                              ((Ty.int IntKind.i64).pair
                                ((Ty.int IntKind.i64).pair
                                  ((Ty.int IntKind.u16).pair
                                    ((Ty.int IntKind.u16).pair
                                      ((Ty.int IntKind.u16).pair
                                        ((Ty.int IntKind.i64).pair
                                          ((Ty.int IntKind.i64).pair
                                            (Ty.bool.pair ((Ty.int IntKind.i64).pair ((Ty.int IntKind.i64).pair Ty.str).slice)))))))))))))).slice.pair
                (((Ty.int IntKind.i64).pair (Ty.int IntKind.i64)).pair (Ty.int IntKind.u16)).slice))).slice),
    ((5 : Nat), none,
      Sh.val
        (Ty.bool.pair
            ((Ty.int IntKind.u64).pair
              ((((Ty.int IntKind.i64).pair
                          ((Ty.int IntKind.i64).pair
                            ((Ty.int IntKind.i64).pair
                              ((Ty.int IntKind.u16).pair
                                ((Ty.int IntKind.u16).pair
                                  ((Ty.int IntKind.u16).pair
                                    (Ty.bool.slice.pair
                                      ((Ty.int IntKind.u16).slice.pair
                                        ((Ty.int IntKind.i64).pair
                                          ((Ty.int IntKind.i64).pair ((Ty.int IntKind.i64).pair (Ty.int IntKind.i64)))))))))))).pair
                      ((Ty.int IntKind.i64).pair
                        ((Ty.int IntKind.i64).pair
                          (Ty.bool.slice.pair
                            ((Ty.int IntKind.u16).slice.pair
                              ((Ty.int IntKind.i64).pair
                                ((Ty.int IntKind.i64).pair
                                  ((Ty.int IntKind.u16).pair
                                    ((Ty.int IntKind.u16).pair
                                      ((Ty.int IntKind.u16).pair
                                        ((Ty.int IntKind.i64).pair
                                          ((Ty.int IntKind.i64).pair
                                            (Ty.bool.pair ((Ty.int IntKind.i64).pair ((Ty.int IntKind.i64).pair Ty.str).slice)))))))))))))).slice.pair
                (((Ty.int IntKind.i64).pair (Ty.int IntKind.i64)).pair (Ty.int IntKind.u16)).slice))).slice),
    ((6 : Nat), none,
      Sh.own
        (Ty.bool.pair
          ((Ty.int IntKind.u64).pair
            ((((Ty.int IntKind.i64).pair
                        ((Ty.int IntKind.i64).pair
                          ((Ty.int IntKind.i64).pair
                            ((Ty.int IntKind.u16).pair
                              ((Ty.int IntKind.u16).pair
                                ((Ty.int IntKind.u16).pair
                                  (Ty.bool.slice.pair
                                    ((Ty.int IntKind.u16).slice.pair
                                      ((Ty.int IntKind.i64).pair
                                        ((Ty.int IntKind.i64).pair ((Ty.int IntKind.i64).pair (Ty.int IntKind.i64)))))))))))).pair
                    ((Ty.int IntKind.i64).pair
                      ((Ty.int IntKind.i64).pair
                        (Ty.bool.slice.pair
                          ((Ty.int IntKind.u16).slice.pair
                            ((Ty.int IntKind.i64).pair
                              ((Ty.int IntKind.i64).pair
                                ((Ty.int IntKind.u16).pair
                                  ((Ty.int IntKind.u16).pair
                                    ((Ty.int IntKind.u16).pair
                                      ((Ty.int IntKind.i64).pair
                                        ((Ty.int IntKind.i64).pair
                                          (Ty.bool.pair ((Ty.int IntKind.i64).pair ((Ty.int IntKind.i64).pair Ty.str).slice)))))))))))))).slice.pair
              (((Ty.int IntKind.i64).pair (Ty.int IntKind.i64)).pair (Ty.int IntKind.u16)).slice)))),
    ((7 : Nat), none, Sh.arrp (20 : Nat) Ty.bool), ((8 : Nat), none, Sh.val (Ty.int IntKind.i64))]]
def lFileSorts_L1 (rec10 : List
      (Bool ×
        Int ×
          List
              ((Int × Int × Int × Int × Int × Int × List Bool × List Int × Int × Int × Int × Int) ×
                Int × Int × List Bool × List Int × Int × Int × Int × Int × Int × Int × Int × Bool × Int × List (Int × ByteArray)) ×
            List ((Int × Int) × Int)) ×
    List
        (Bool ×
          Int ×
            List
                ((Int × Int × Int × Int × Int × Int × List Bool × List Int × Int × Int × Int × Int) ×
                  Int × Int × List Bool × List Int × Int × Int × Int × Int × Int × Int × Int × Bool × Int × List (Int × ByteArray)) ×
              List ((Int × Int) × Int)) ×
      List
          (Bool ×
            Int ×
              List
                  ((Int × Int × Int × Int × Int × Int × List Bool × List Int × Int × Int × Int × Int) ×
                    Int × Int × List Bool × List Int × Int × Int × Int × Int × Int × Int × Int × Bool × Int × List (Int × ByteArray)) ×
                List ((Int × Int) × Int)) ×
        List Bool × Int × Unit →
  Option
    ((Bool × Unit) ×
      Unit ×
        Unit)) : List
      (Bool ×
        Int ×
          List
              ((Int × Int × Int × Int × Int × Int × List Bool × List Int × Int × Int × Int × Int) ×
                Int × Int × List Bool × List Int × Int × Int × Int × Int × Int × Int × Int × Bool × Int × List (Int × ByteArray)) ×
            List ((Int × Int) × Int)) ×
    List
        (Bool ×
          Int ×
            List
                ((Int × Int × Int × Int × Int × Int × List Bool × List Int × Int × Int × Int × Int) ×
                  Int × Int × List Bool × List Int × Int × Int × Int × Int × Int × Int × Int × Bool × Int × List (Int × ByteArray)) ×
              List ((Int × Int) × Int)) ×
      List
          (Bool ×
            Int ×
              List
                  ((Int × Int × Int × Int × Int × Int × List Bool × List Int × Int × Int × Int × Int) ×
                    Int × Int × List Bool × List Int × Int × Int × Int × Int × Int × Int × Int × Bool × Int × List (Int × ByteArray)) ×
                List ((Int × Int) × Int)) ×
        List Bool × Int × Unit →
  Option ((Bool × Unit) × Unit × Unit) := fun (y12, y13, y14, y15, y16, ()) =>
  br (decide (y16 < (↑y13.length : Int)))
  (br (decide ((0 : Int) ≤ y16))
    (br (decide (y16 < (↑y13.length : Int)))
      (br ((↑(List.length (y13.getD y16.toNat (false, (0 : Int), [], [])).2.2.2) : Int) != (1 : Int))
        (some ((false, ()), (), ()))
        (br (decide ((0 : Int) ≤ y16))
          (br (decide (y16 < (↑y14.length : Int)))
            (br ((↑(List.length (y14.getD y16.toNat (false, (0 : Int), [], [])).2.2.2) : Int) != (1 : Int))
              (some ((false, ()), (), ()))
              (br (decide ((0 : Int) ≤ y16))
                (br (decide (y16 < (↑y13.length : Int)))
                  (br (decide ((0 : Int) < (↑(List.length (y13.getD y16.toNat (false, (0 : Int), [], [])).2.2.2) : Int)))
                    (br (decide ((0 : Int) ≤ y16))
                      (br (decide (y16 < (↑y14.length : Int)))
                        (br (decide ((0 : Int) < (↑(List.length (y14.getD y16.toNat (false, (0 : Int), [], [])).2.2.2) : Int)))
                          (br
                            (!((List.getD (y13.getD y16.toNat (false, (0 : Int), [], [])).2.2.2 (Int.toNat (0 : Int))
                                          (((0 : Int), (0 : Int)), (0 : Int))).1.1 ==
                                    (List.getD (y14.getD y16.toNat (false, (0 : Int), [], [])).2.2.2 (Int.toNat (0 : Int))
                                          (((0 : Int), (0 : Int)), (0 : Int))).1.1 &&
                                  (List.getD (y13.getD y16.toNat (false, (0 : Int), [], [])).2.2.2 (Int.toNat (0 : Int))
                                          (((0 : Int), (0 : Int)), (0 : Int))).1.2 ==
                                    (List.getD (y14.getD y16.toNat (false, (0 : Int), [], [])).2.2.2 (Int.toNat (0 : Int))
                                          (((0 : Int), (0 : Int)), (0 : Int))).1.2 &&
                                (List.getD (y13.getD y16.toNat (false, (0 : Int), [], [])).2.2.2 (Int.toNat (0 : Int))
                                      (((0 : Int), (0 : Int)), (0 : Int))).2 ==
                                  (List.getD (y14.getD y16.toNat (false, (0 : Int), [], [])).2.2.2 (Int.toNat (0 : Int))
                                      (((0 : Int), (0 : Int)), (0 : Int))).2))
                            (some ((false, ()), (), ()))
                            (br (decide ((0 : Int) ≤ y16))
                              (br (decide (y16 < (↑y13.length : Int)))
                                (br (decide ((0 : Int) < (↑(List.length (y13.getD y16.toNat (false, (0 : Int), [], [])).2.2.2) : Int)))
                                  (br
                                    (decide
                                      (IntKind.i64.wrap
                                          (List.getD (y13.getD y16.toNat (false, (0 : Int), [], [])).2.2.2 (Int.toNat (0 : Int))
                                              (((0 : Int), (0 : Int)), (0 : Int))).2 ≥
                                        (↑y12.length : Int)))
                                    (some ((false, ()), (), ()))
                                    (br
                                      (decide
                                        ((0 : Int) ≤
                                          IntKind.i64.wrap
                                            (List.getD (y13.getD y16.toNat (false, (0 : Int), [], [])).2.2.2 (Int.toNat (0 : Int))
                                                (((0 : Int), (0 : Int)), (0 : Int))).2))
                                      (br
                                        (decide
                                          (IntKind.i64.wrap
                                              (List.getD (y13.getD y16.toNat (false, (0 : Int), [], [])).2.2.2 (Int.toNat (0 : Int))
                                                  (((0 : Int), (0 : Int)), (0 : Int))).2 <
                                            (↑(20 : Nat) : Int)))
                                        (br
                                          (y15.getD
                                            (IntKind.i64.wrap
                                                (List.getD (y13.getD y16.toNat (false, (0 : Int), [], [])).2.2.2 (Int.toNat (0 : Int))
                                                    (((0 : Int), (0 : Int)), (0 : Int))).2).toNat
                                            false)
                                          (some ((false, ()), (), ()))
                                          (br (decide ((0 : Int) ≤ y16))
                                            (br (decide (y16 < (↑y13.length : Int)))
                                              (br
                                                (decide
                                                  ((0 : Int) ≤
                                                    IntKind.i64.wrap
                                                      (List.getD (y13.getD y16.toNat (false, (0 : Int), [], [])).2.2.2 (Int.toNat (0 : Int))
                                                          (((0 : Int), (0 : Int)), (0 : Int))).2))
                                                (br
                                                  (decide
                                                    (IntKind.i64.wrap
                                                        (List.getD (y13.getD y16.toNat (false, (0 : Int), [], [])).2.2.2 (Int.toNat (0 : Int))
                                                            (((0 : Int), (0 : Int)), (0 : Int))).2 <
                                                      (↑y12.length : Int)))
                                                  (br
                                                    ((y13.getD y16.toNat (false, (0 : Int), [], [])).2.1 !=
                                                      (y12.getD
                                                            (IntKind.i64.wrap
                                                                (List.getD (y13.getD y16.toNat (false, (0 : Int), [], [])).2.2.2 (Int.toNat (0 : Int))
                                                                    (((0 : Int), (0 : Int)), (0 : Int))).2).toNat
                                                            (false, (0 : Int), [], [])).2.1)
                                                    (some ((false, ()), (), ()))
                                                    (br (decide ((0 : Int) ≤ y16))
                                                      (br (decide (y16 < (↑y13.length : Int)))
                                                        (br
                                                          (decide
                                                            ((0 : Int) ≤
                                                              IntKind.i64.wrap
                                                                (List.getD (y13.getD y16.toNat (false, (0 : Int), [], [])).2.2.2 (Int.toNat (0 : Int))
                                                                    (((0 : Int), (0 : Int)), (0 : Int))).2))
                                                          (br
                                                            (decide
                                                              (IntKind.i64.wrap
                                                                  (List.getD (y13.getD y16.toNat (false, (0 : Int), [], [])).2.2.2
                                                                      (Int.toNat (0 : Int)) (((0 : Int), (0 : Int)), (0 : Int))).2 <
                                                                (↑y12.length : Int)))
                                                            (br
                                                              (!(y13.getD y16.toNat (false, (0 : Int), [], [])).1 ==
                                                                  (y12.getD
                                                                      (IntKind.i64.wrap
                                                                          (List.getD (y13.getD y16.toNat (false, (0 : Int), [], [])).2.2.2
                                                                              (Int.toNat (0 : Int)) (((0 : Int), (0 : Int)), (0 : Int))).2).toNat
                                                                      (false, (0 : Int), [], [])).1)
                                                              (some ((false, ()), (), ()))
                                                              (br
                                                                (decide
                                                                  ((0 : Int) ≤
                                                                    IntKind.i64.wrap
                                                                      (List.getD (y13.getD y16.toNat (false, (0 : Int), [], [])).2.2.2
                                                                          (Int.toNat (0 : Int)) (((0 : Int), (0 : Int)), (0 : Int))).2))
                                                                (br
                                                                  (decide
                                                                    (IntKind.i64.wrap
                                                                        (List.getD (y13.getD y16.toNat (false, (0 : Int), [], [])).2.2.2
                                                                            (Int.toNat (0 : Int)) (((0 : Int), (0 : Int)), (0 : Int))).2 <
                                                                      (↑(20 : Nat) : Int)))
                                                                  (br (y16 == (0 : Int))
                                                                    (rec10
                                                                      (y12, y13, y14,
                                                                        y15.set
                                                                          (IntKind.i64.wrap
                                                                              (List.getD (y13.getD y16.toNat (false, (0 : Int), [], [])).2.2.2
                                                                                  (Int.toNat (0 : Int)) (((0 : Int), (0 : Int)), (0 : Int))).2).toNat
                                                                          true,
                                                                        IntKind.i64.wrap (y16 + (1 : Int)), ()))
                                                                    (br (decide ((0 : Int) ≤ IntKind.i64.wrap (y16 - (1 : Int))))
                                                                      (br (decide (IntKind.i64.wrap (y16 - (1 : Int)) < (↑y13.length : Int)))
                                                                        (br (decide ((0 : Int) ≤ y16))
                                                                          (br (decide (y16 < (↑y13.length : Int)))
                                                                            (br
                                                                              (decide
                                                                                ((y13.getD (IntKind.i64.wrap (y16 - (1 : Int))).toNat
                                                                                        (false, (0 : Int), [], [])).2.1 >
                                                                                  (y13.getD y16.toNat (false, (0 : Int), [], [])).2.1))
                                                                              (some ((false, ()), (), ()))
                                                                              (br
                                                                                ((y13.getD (IntKind.i64.wrap (y16 - (1 : Int))).toNat
                                                                                        (false, (0 : Int), [], [])).2.1 ==
                                                                                  (y13.getD y16.toNat (false, (0 : Int), [], [])).2.1)
                                                                                (br
                                                                                  (!(y13.getD (IntKind.i64.wrap (y16 - (1 : Int))).toNat
                                                                                        (false, (0 : Int), [], [])).1)
                                                                                  (br (y13.getD y16.toNat (false, (0 : Int), [], [])).1
                                                                                    (some ((false, ()), (), ()))
                                                                                    (br
                                                                                      ((y13.getD (IntKind.i64.wrap (y16 - (1 : Int))).toNat
                                                                                              (false, (0 : Int), [], [])).2.1 ==
                                                                                        (y13.getD y16.toNat (false, (0 : Int), [], [])).2.1)
                                                                                      (br
                                                                                        ((y13.getD (IntKind.i64.wrap (y16 - (1 : Int))).toNat
                                                                                              (false, (0 : Int), [], [])).1 ==
                                                                                          (y13.getD y16.toNat (false, (0 : Int), [], [])).1)
                                                                                        (br
                                                                                          (decide
                                                                                            ((0 : Int) <
                                                                                              (↑(List.length
                                                                                                    (y13.getD
                                                                                                            (IntKind.i64.wrap (y16 - (1 : Int))).toNat
                                                                                                            (false, (0 : Int), [], [])).2.2.2) :
                                                                                                Int)))
                                                                                          (br
                                                                                            (decide
                                                                                              ((0 : Int) <
                                                                                                (↑(List.length
                                                                                                      (y13.getD y16.toNat
                                                                                                              (false, (0 : Int), [], [])).2.2.2) :
                                                                                                  Int)))
                                                                                            (br
                                                                                              (decide
                                                                                                ((List.getD
                                                                                                      (y13.getD
                                                                                                              (IntKind.i64.wrap
                                                                                                                  (y16 - (1 : Int))).toNat
                                                                                                              (false, (0 : Int), [], [])).2.2.2
                                                                                                      (Int.toNat (0 : Int))
                                                                                                      (((0 : Int), (0 : Int)), (0 : Int))).2 ≥
                                                                                                  (List.getD
                                                                                                      (y13.getD y16.toNat
                                                                                                              (false, (0 : Int), [], [])).2.2.2
                                                                                                      (Int.toNat (0 : Int))
                                                                                                      (((0 : Int), (0 : Int)), (0 : Int))).2))
                                                                                              (some ((false, ()), (), ()))
                                                                                              (rec10
                                                                                                (y12, y13, y14,
                                                                                                  y15.set
                                                                                                    (IntKind.i64.wrap
                                                                                                        (List.getD
                                                                                                            (y13.getD y16.toNat
                                                                                                                    (false, (0 : Int), [], [])).2.2.2
                                                                                                            (Int.toNat (0 : Int))
                                                                                                            (((0 : Int), (0 : Int)),
                                                                                                              (0 : Int))).2).toNat
                                                                                                    true,
                                                                                                  IntKind.i64.wrap (y16 + (1 : Int)), ())))
                                                                                            none)
                                                                                          none)
                                                                                        (rec10
                                                                                          (y12, y13, y14,
                                                                                            y15.set
                                                                                              (IntKind.i64.wrap
                                                                                                  (List.getD
                                                                                                      (y13.getD y16.toNat
                                                                                                              (false, (0 : Int), [], [])).2.2.2
                                                                                                      (Int.toNat (0 : Int))
                                                                                                      (((0 : Int), (0 : Int)), (0 : Int))).2).toNat
                                                                                              true,
                                                                                            IntKind.i64.wrap (y16 + (1 : Int)), ())))
                                                                                      (rec10
                                                                                        (y12, y13, y14,
                                                                                          y15.set
                                                                                            (IntKind.i64.wrap
                                                                                                (List.getD
                                                                                                    (y13.getD y16.toNat
                                                                                                            (false, (0 : Int), [], [])).2.2.2
                                                                                                    (Int.toNat (0 : Int))
                                                                                                    (((0 : Int), (0 : Int)), (0 : Int))).2).toNat
                                                                                            true,
                                                                                          IntKind.i64.wrap (y16 + (1 : Int)), ()))))
                                                                                  (br
                                                                                    ((y13.getD (IntKind.i64.wrap (y16 - (1 : Int))).toNat
                                                                                            (false, (0 : Int), [], [])).2.1 ==
                                                                                      (y13.getD y16.toNat (false, (0 : Int), [], [])).2.1)
                                                                                    (br
                                                                                      ((y13.getD (IntKind.i64.wrap (y16 - (1 : Int))).toNat
                                                                                            (false, (0 : Int), [], [])).1 ==
                                                                                        (y13.getD y16.toNat (false, (0 : Int), [], [])).1)
                                                                                      (br
                                                                                        (decide
                                                                                          ((0 : Int) <
                                                                                            (↑(List.length
                                                                                                  (y13.getD (IntKind.i64.wrap (y16 - (1 : Int))).toNat
                                                                                                          (false, (0 : Int), [], [])).2.2.2) :
                                                                                              Int)))
                                                                                        (br
                                                                                          (decide
                                                                                            ((0 : Int) <
                                                                                              (↑(List.length
                                                                                                    (y13.getD y16.toNat
                                                                                                            (false, (0 : Int), [], [])).2.2.2) :
                                                                                                Int)))
                                                                                          (br
                                                                                            (decide
                                                                                              ((List.getD
                                                                                                    (y13.getD
                                                                                                            (IntKind.i64.wrap (y16 - (1 : Int))).toNat
                                                                                                            (false, (0 : Int), [], [])).2.2.2
                                                                                                    (Int.toNat (0 : Int))
                                                                                                    (((0 : Int), (0 : Int)), (0 : Int))).2 ≥
                                                                                                (List.getD
                                                                                                    (y13.getD y16.toNat
                                                                                                            (false, (0 : Int), [], [])).2.2.2
                                                                                                    (Int.toNat (0 : Int))
                                                                                                    (((0 : Int), (0 : Int)), (0 : Int))).2))
                                                                                            (some ((false, ()), (), ()))
                                                                                            (rec10
                                                                                              (y12, y13, y14,
                                                                                                y15.set
                                                                                                  (IntKind.i64.wrap
                                                                                                      (List.getD
                                                                                                          (y13.getD y16.toNat
                                                                                                                  (false, (0 : Int), [], [])).2.2.2
                                                                                                          (Int.toNat (0 : Int))
                                                                                                          (((0 : Int), (0 : Int)),
                                                                                                            (0 : Int))).2).toNat
                                                                                                  true,
                                                                                                IntKind.i64.wrap (y16 + (1 : Int)), ())))
                                                                                          none)
                                                                                        none)
                                                                                      (rec10
                                                                                        (y12, y13, y14,
                                                                                          y15.set
                                                                                            (IntKind.i64.wrap
                                                                                                (List.getD
                                                                                                    (y13.getD y16.toNat
                                                                                                            (false, (0 : Int), [], [])).2.2.2
                                                                                                    (Int.toNat (0 : Int))
                                                                                                    (((0 : Int), (0 : Int)), (0 : Int))).2).toNat
                                                                                            true,
                                                                                          IntKind.i64.wrap (y16 + (1 : Int)), ())))
                                                                                    (rec10
                                                                                      (y12, y13, y14,
                                                                                        y15.set
                                                                                          (IntKind.i64.wrap
                                                                                              (List.getD
                                                                                                  (y13.getD y16.toNat
                                                                                                          (false, (0 : Int), [], [])).2.2.2
                                                                                                  (Int.toNat (0 : Int))
                                                                                                  (((0 : Int), (0 : Int)), (0 : Int))).2).toNat
                                                                                          true,
                                                                                        IntKind.i64.wrap (y16 + (1 : Int)), ()))))
                                                                                (br
                                                                                  ((y13.getD (IntKind.i64.wrap (y16 - (1 : Int))).toNat
                                                                                          (false, (0 : Int), [], [])).2.1 ==
                                                                                    (y13.getD y16.toNat (false, (0 : Int), [], [])).2.1)
                                                                                  (br
                                                                                    ((y13.getD (IntKind.i64.wrap (y16 - (1 : Int))).toNat
                                                                                          (false, (0 : Int), [], [])).1 ==
                                                                                      (y13.getD y16.toNat (false, (0 : Int), [], [])).1)
                                                                                    (br
                                                                                      (decide
                                                                                        ((0 : Int) <
                                                                                          (↑(List.length
                                                                                                (y13.getD (IntKind.i64.wrap (y16 - (1 : Int))).toNat
                                                                                                        (false, (0 : Int), [], [])).2.2.2) :
                                                                                            Int)))
                                                                                      (br
                                                                                        (decide
                                                                                          ((0 : Int) <
                                                                                            (↑(List.length
                                                                                                  (y13.getD y16.toNat
                                                                                                          (false, (0 : Int), [], [])).2.2.2) :
                                                                                              Int)))
                                                                                        (br
                                                                                          (decide
                                                                                            ((List.getD
                                                                                                  (y13.getD (IntKind.i64.wrap (y16 - (1 : Int))).toNat
                                                                                                          (false, (0 : Int), [], [])).2.2.2
                                                                                                  (Int.toNat (0 : Int))
                                                                                                  (((0 : Int), (0 : Int)), (0 : Int))).2 ≥
                                                                                              (List.getD
                                                                                                  (y13.getD y16.toNat
                                                                                                          (false, (0 : Int), [], [])).2.2.2
                                                                                                  (Int.toNat (0 : Int))
                                                                                                  (((0 : Int), (0 : Int)), (0 : Int))).2))
                                                                                          (some ((false, ()), (), ()))
                                                                                          (rec10
                                                                                            (y12, y13, y14,
                                                                                              y15.set
                                                                                                (IntKind.i64.wrap
                                                                                                    (List.getD
                                                                                                        (y13.getD y16.toNat
                                                                                                                (false, (0 : Int), [], [])).2.2.2
                                                                                                        (Int.toNat (0 : Int))
                                                                                                        (((0 : Int), (0 : Int)), (0 : Int))).2).toNat
                                                                                                true,
                                                                                              IntKind.i64.wrap (y16 + (1 : Int)), ())))
                                                                                        none)
                                                                                      none)
                                                                                    (rec10
                                                                                      (y12, y13, y14,
                                                                                        y15.set
                                                                                          (IntKind.i64.wrap
                                                                                              (List.getD
                                                                                                  (y13.getD y16.toNat
                                                                                                          (false, (0 : Int), [], [])).2.2.2
                                                                                                  (Int.toNat (0 : Int))
                                                                                                  (((0 : Int), (0 : Int)), (0 : Int))).2).toNat
                                                                                          true,
                                                                                        IntKind.i64.wrap (y16 + (1 : Int)), ())))
                                                                                  (rec10
                                                                                    (y12, y13, y14,
                                                                                      y15.set
                                                                                        (IntKind.i64.wrap
                                                                                            (List.getD
                                                                                                (y13.getD y16.toNat (false, (0 : Int), [], [])).2.2.2
                                                                                                (Int.toNat (0 : Int))
                                                                                                (((0 : Int), (0 : Int)), (0 : Int))).2).toNat
                                                                                        true,
                                                                                      IntKind.i64.wrap (y16 + (1 : Int)), ())))))
                                                                            none)
                                                                          none)
                                                                        none)
                                                                      none))
                                                                  none)
                                                                none))
                                                            none)
                                                          none)
                                                        none)
                                                      none))
                                                  none)
                                                none)
                                              none)
                                            none))
                                        none)
                                      none))
                                  none)
                                none)
                              none))
                          none)
                        none)
                      none)
                    none)
                  none)
                none))
            none)
          none))
      none)
    none)
  (some ((true, ()), (), ()))
def lFileSorts_L2 (K : Nat) (rec1 : List Int ×
    List
        (Bool ×
          Int ×
            List
                ((Int × Int × Int × Int × Int × Int × List Bool × List Int × Int × Int × Int × Int) ×
                  Int × Int × List Bool × List Int × Int × Int × Int × Int × Int × Int × Int × Bool × Int × List (Int × ByteArray)) ×
              List ((Int × Int) × Int)) ×
      Int × Unit →
  Option
    ((Bool × Unit) ×
      Unit ×
        Unit)) : List Int ×
    List
        (Bool ×
          Int ×
            List
                ((Int × Int × Int × Int × Int × Int × List Bool × List Int × Int × Int × Int × Int) ×
                  Int × Int × List Bool × List Int × Int × Int × Int × Int × Int × Int × Int × Bool × Int × List (Int × ByteArray)) ×
              List ((Int × Int) × Int)) ×
      Int × Unit →
  Option ((Bool × Unit) × Unit × Unit) := fun (y3, y4, y5, ()) =>
  br (decide (y5 < (↑y3.length : Int)))
  (br (decide ((0 : Int) ≤ y5))
    (br (decide (y5 < (↑y3.length : Int)))
      (bd
        (grd (true && decide ((5 : Int) < (4611686018427387904 : Int)))
          ((y3.getD y5.toNat (0 : Int) % (5 : Int), ()), (), (), ()))
        fun (x6 : (Int × Unit) × Unit × Unit × Unit) =>
        br (decide ((0 : Int) ≤ y5))
          (br (decide (y5 < (↑y3.length : Int)))
            (bd
              (grd (true && (true && decide ((2 : Int) < (4611686018427387904 : Int))))
                ((digitS (y3.getD y5.toNat (0 : Int)) (5 : Int) (2 : Int), ()), (), (), (), ()))
              fun (x7 : (Int × Unit) × Unit × Unit × Unit × Unit) =>
              br
                (decide
                  ((y4.length + [(x7.1.1 == (0 : Int), IntKind.u64.wrap x6.1.1, ([] : List StepT),  [(((0 : Int), (0 : Int)), IntKind.u16.wrap y5)])].length) *
                      (64 : Nat) ≤
                    LIM))
                (br
                  (decide
                    (y4.length + [(x7.1.1 == (0 : Int), IntKind.u64.wrap x6.1.1, ([] : List StepT),  [(((0 : Int), (0 : Int)), IntKind.u16.wrap y5)])].length ≤ LIM))
                  (rec1
                    (y3, cat y4 [(x7.1.1 == (0 : Int), IntKind.u64.wrap x6.1.1, ([] : List StepT),  [(((0 : Int), (0 : Int)), IntKind.u16.wrap y5)])],
                      IntKind.i64.wrap (y5 + (1 : Int)), ()))
                  none)
                none)
            none)
          none)
      none)
    none)
  (bd (grd (decide (y4.length ≤ (20 : Nat)) && y4.all deedOk) ((sortD y4, ()), (), ()))
    fun
      (x8 :
        (List
              (Bool ×
                Int ×
                  List
                      ((Int × Int × Int × Int × Int × Int × List Bool × List Int × Int × Int × Int × Int) ×
                        Int × Int × List Bool × List Int × Int × Int × Int × Int × Int × Int × Int × Bool × Int × List (Int × ByteArray)) ×
                    List ((Int × Int) × Int)) ×
            Unit) ×
          Unit × Unit) =>
    bd (grd (decide (x8.1.1.length ≤ (20 : Nat)) && x8.1.1.all deedOk) ((sortD x8.1.1, ()), (), ()))
      fun
        (x9 :
          (List
                (Bool ×
                  Int ×
                    List
                        ((Int × Int × Int × Int × Int × Int × List Bool × List Int × Int × Int × Int × Int) ×
                          Int × Int × List Bool × List Int × Int × Int × Int × Int × Int × Int × Int × Bool × Int × List (Int × ByteArray)) ×
                      List ((Int × Int) × Int)) ×
              Unit) ×
            Unit × Unit) =>
      br ((↑x8.1.1.length : Int) != (↑y4.length : Int)) (some ((false, ()), (), ()))
        (br ((↑x9.1.1.length : Int) != (↑y4.length : Int)) (some ((false, ()), (), ()))
          (loopN lFileSorts_L1 K
            (y4, x8.1.1, x9.1.1,
              [false, false, false, false, false, false, false, false, false, false, false, false, false, false, false, false, false, false, false,
                false],
              (0 : Int), ()))))
def lFileSorts_P (K : Nat) (a0 : List Int) : Option ((Bool × Unit) × Unit × Unit) :=
  br (decide ((↑a0.length : Int) > (20 : Int))) (some ((true, ()), (), ()))
  (br (!true) (some ((true, ()), (), ())) (loopN (lFileSorts_L2 K) K (a0, [], (0 : Int), ())))
theorem lFileSorts_rn (K : Nat) (a0 : List
  Int) : runF (cfgW g_lFileSorts) K f_lFileSorts lFileSorts_tm [.val (.slice tI)] [.val .bool] (a0, ()) = lFileSorts_P K a0 := by kernel_rfl
end
end Go.BB
