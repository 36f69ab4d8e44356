/- A symbolic machine for the model's code, and what it shows of this seat's functions. No conditions. -/
import Derived.Test.YteaomngbkklfoaaRN
import Derived.Test.YteaomngbkklfoaaRSStore
set_option linter.unusedSimpArgs false
set_option linter.unusedVariables false
namespace Go.BB
open Go Go.Proofs
set_option maxRecDepth 100000
set_option exponentiation.threshold 100000
noncomputable section
abbrev g_isNaN : List (Nat × Ctr O0) := []
def isNaN_tm : List Tm := []
def isNaN_P (K : Nat) (a0 : Int) : Option ((Bool × Unit) × Unit × Unit) :=
  some ((a0 != a0, ()), (), ())
theorem isNaN_rn (K : Nat) (a0 : Int) : runF (cfgW g_isNaN) K f_isNaN isNaN_tm [.val tI] [.val .bool] (a0, ()) = isNaN_P K a0 := by kernel_rfl
abbrev g_compare : List (Nat × Ctr O0) := [(n_isNaN, c_isNaN)]
def compare_tm : List Tm := []
def compare_P (K : Nat) (a0 : Int) (a1 : Int) : Option ((Int × Unit) × Unit × Unit × Unit) :=
  br (decide (a0 < a1)) (some (((-1 : Int), ()), (), (), ()))
  (br (decide (a0 > a1)) (some (((1 : Int), ()), (), (), ()))
    (some (((0 : Int), ()), (), (), ())))
theorem compare_rn (K : Nat) (a0 : Int) (a1 : Int) : runF (cfgW g_compare) K f_compare compare_tm [.val tI, .val tI] [.val tI] (a0, a1, ()) = compare_P K a0 a1 := by kernel_rfl
abbrev g_or : List (Nat × Ctr O0) := []
def or_tm : List Tm := [[((3 : Nat), none, Sh.val (Ty.int IntKind.i64)), ((6 : Nat), none, Sh.val (Ty.int IntKind.i64).slice),
    ((7 : Nat), none, Sh.val (Ty.int IntKind.i64)), ((8 : Nat), none, Sh.val (Ty.int IntKind.i64))]]
def or_L1 (rec1 : Int × List Int × Int × Int × Unit →
  Option ((Int × Unit) × Unit × Unit)) : Int × List Int × Int × Int × Unit → Option ((Int × Unit) × Unit × Unit) := fun (y3, y4, y5, y6, ()) =>
  br (decide (y6 < y5))
  (br (decide ((0 : Int) ≤ y6))
    (br (decide (y6 < (↑y4.length : Int)))
      (br (y4.getD y6.toNat (0 : Int) != y3) (some ((y4.getD y6.toNat (0 : Int), ()), (), ()))
        (rec1 (y3, y4, y5, IntKind.i64.wrap (y6 + (1 : Int)), ())))
      none)
    none)
  (some ((y3, ()), (), ()))
def or_P (K : Nat) (a0 : List Int) : Option ((Int × Unit) × Unit × Unit) :=
  loopN or_L1 K ((0 : Int), a0, (↑a0.length : Int), (0 : Int), ())
theorem or_rn (K : Nat) (a0 : List Int) : runF (cfgW g_or) K f_or or_tm [.val (.slice tI)] [.val tI] (a0, ()) = or_P K a0 := by kernel_rfl
abbrev g_order : List (Nat × Ctr O0) := [(n_or, c_or), (n_compare, c_compare)]
def order_tm : List Tm := []
def order_P (K : Nat) (a0 : Int × Int) (a1 : Int × Int) : Option ((Int × Unit) × Unit × Unit × Unit) :=
  bd (grd (lenOk [cmpS a0.1 a1.1, cmpS a0.2 a1.2]) ((orS [cmpS a0.1 a1.1, cmpS a0.2 a1.2], ()), (), ()))
  fun (x1 : (Int × Unit) × Unit × Unit) => some ((x1.1.1, ()), (), (), ())
theorem order_rn (K : Nat) (a0 : Int ×
  Int) (a1 : Int × Int) : runF (cfgW g_order) K f_order order_tm [.val tKey, .val tKey] [.val tI] (a0, a1, ()) = order_P K a0 a1 := by kernel_rfl
abbrev g_find1 : List (Nat × Ctr O0) := [(n_order, c_order)]
def find1_tm : List Tm := []
def find1_P (K : Nat) (a0 : (Int × Int) × Int) (a1 : Int × Int) : Option ((Int × Unit) × Unit × Unit × Unit) :=
  some ((orderS (a0.1.1, a0.1.2) (a1.1, a1.2), ()), (), (), ())
theorem find1_rn (K : Nat) (a0 : (Int × Int) ×
  Int) (a1 : Int × Int) : runF (cfgW g_find1) K f_find1 find1_tm [.val tCell, .val tKey] [.val tI] (a0, a1, ()) = find1_P K a0 a1 := by kernel_rfl
abbrev g_bsearch : List (Nat × Ctr O0) := [(n_find1, c_find1)]
def bsearch_tm : List Tm := [[((0 : Nat), none, Sh.val (((Ty.int IntKind.i64).pair (Ty.int IntKind.i64)).pair (Ty.int IntKind.u16)).slice), ((2 : Nat), none, Sh.fn (83 : Nat)),
    ((4 : Nat), none, ((Sh.val (Ty.int IntKind.i64)).cons ((Sh.val (Ty.int IntKind.i64)).cons Sh.unit)).ptr),
    ((8 : Nat), none, Sh.val (Ty.int IntKind.i64)), ((9 : Nat), none, Sh.val (Ty.int IntKind.i64)), ((10 : Nat), none, Sh.val (Ty.int IntKind.i64))]]
def bsearch_L1 (rec1 : List ((Int × Int) × Int) × Unit × (Int × Int × Unit) × Int × Int × Int × Unit →
  Option
    ((Int × Bool × Unit) ×
      Unit ×
        Unit ×
          Unit ×
            Unit)) : List ((Int × Int) × Int) × Unit × (Int × Int × Unit) × Int × Int × Int × Unit →
  Option ((Int × Bool × Unit) × Unit × Unit × Unit × Unit) := fun (y3, y4, y5, y6, y7, y8, ()) =>
  br (decide (y7 < y8))
  (br
    (decide ((0 : Int) ≤ IntKind.i64.wrap ((IntKind.u64.wrap (IntKind.i64.wrap (y7 + y8))).fdiv ((2 : Int) ^ min (Int.toNat (1 : Int)) (64 : Nat)))))
    (br
      (decide
        (IntKind.i64.wrap ((IntKind.u64.wrap (IntKind.i64.wrap (y7 + y8))).fdiv ((2 : Int) ^ min (Int.toNat (1 : Int)) (64 : Nat))) <
          (↑y3.length : Int)))
      (br
        (decide
          (orderS
              ((y3.getD
                      (IntKind.i64.wrap
                          ((IntKind.u64.wrap (IntKind.i64.wrap (y7 + y8))).fdiv ((2 : Int) ^ min (Int.toNat (1 : Int)) (64 : Nat)))).toNat
                      (((0 : Int), (0 : Int)), (0 : Int))).1.1,
                (y3.getD
                      (IntKind.i64.wrap
                          ((IntKind.u64.wrap (IntKind.i64.wrap (y7 + y8))).fdiv ((2 : Int) ^ min (Int.toNat (1 : Int)) (64 : Nat)))).toNat
                      (((0 : Int), (0 : Int)), (0 : Int))).1.2)
              (y5.1, y5.2.1) <
            (0 : Int)))
        (rec1
          (y3, (), (y5.1, y5.2.1, ()), y6,
            IntKind.i64.wrap
              (IntKind.i64.wrap ((IntKind.u64.wrap (IntKind.i64.wrap (y7 + y8))).fdiv ((2 : Int) ^ min (Int.toNat (1 : Int)) (64 : Nat))) +
                (1 : Int)),
            y8, ()))
        (rec1
          (y3, (), (y5.1, y5.2.1, ()), y6, y7,
            IntKind.i64.wrap ((IntKind.u64.wrap (IntKind.i64.wrap (y7 + y8))).fdiv ((2 : Int) ^ min (Int.toNat (1 : Int)) (64 : Nat))), ())))
      none)
    none)
  (br (decide (y7 < y6))
    (br (decide ((0 : Int) ≤ y7))
      (br (decide (y7 < (↑y3.length : Int)))
        (some
          ((y7,
              orderS ((y3.getD y7.toNat (((0 : Int), (0 : Int)), (0 : Int))).1.1, (y3.getD y7.toNat (((0 : Int), (0 : Int)), (0 : Int))).1.2)
                  (y5.1, y5.2.1) ==
                (0 : Int),
              ()),
            (), (), (), ()))
        none)
      none)
    (some ((y7, false, ()), (), (), (), ())))
def bsearch_P (K : Nat) (a0 : List
  ((Int × Int) × Int)) (a1 : Int × Int) (a2 : Unit) : Option ((Int × Bool × Unit) × Unit × Unit × Unit × Unit) :=
  loopN bsearch_L1 K (a0, (), (a1.1, a1.2, ()), (↑a0.length : Int), (0 : Int), (↑a0.length : Int), ())
theorem bsearch_rn (K : Nat) (a0 : List
  ((Int × Int) ×
    Int)) (a1 : Int ×
  Int) (a2 : Unit) : runF (cfgW g_bsearch) K f_bsearch bsearch_tm [.val (.slice tCell), .val tKey, .fn n_find1] [.val tI, .val .bool] (a0, a1, a2, ()) = bsearch_P K a0 a1 a2 := by kernel_rfl
abbrev g_bfind : List (Nat × Ctr O0) := [(n_bsearch, c_bsearch n_find1)]
def bfind_tm : List Tm := []
def bfind_P (K : Nat) (a0 : List ((Int × Int) × Int)) (a1 : Int × Int) : Option ((Int × Bool × Unit) × Unit × Unit × Unit) :=
  bd (grd (lenOk a0 && bufS a0) (((↑(cntK a0 (a1.1, a1.2)) : Int), hasK a0 (a1.1, a1.2), ()), (), (), (), ()))
  fun (x1 : (Int × Bool × Unit) × Unit × Unit × Unit × Unit) =>
  br (decide (x1.1.1 < (↑a0.length : Int)))
    (br (decide ((0 : Int) ≤ x1.1.1))
      (br (decide (x1.1.1 < (↑a0.length : Int)))
        (some
          ((x1.1.1,
              (a0.getD x1.1.1.toNat (((0 : Int), (0 : Int)), (0 : Int))).1.1 == a1.1 &&
                (a0.getD x1.1.1.toNat (((0 : Int), (0 : Int)), (0 : Int))).1.2 == a1.2,
              ()),
            (), (), ()))
        none)
      none)
    (some ((x1.1.1, false, ()), (), (), ()))
theorem bfind_rn (K : Nat) (a0 : List
  ((Int × Int) ×
    Int)) (a1 : Int ×
  Int) : runF (cfgW g_bfind) K f_bfind bfind_tm [.val (.slice tCell), .val tKey] [.val tI, .val .bool] (a0, a1, ()) = bfind_P K a0 a1 := by kernel_rfl
abbrev g_put : List (Nat × Ctr O0) := [(n_bfind, c_bfind), (n_cloneCells, c_cloneCells)]
def put_tm : List Tm := []
def put_P (K : Nat) (a0 : List ((Int × Int) × Int)) (a1 : (Int × Int) × Int) : Option ((List ((Int × Int) × Int) × Unit) × Unit × Unit × Unit) :=
  bd (grd (lenOk a0 && bufS a0) (((↑(cntK a0 (a1.1.1, a1.1.2)) : Int), hasK a0 (a1.1.1, a1.1.2), ()), (), (), ()))
  fun (x1 : (Int × Bool × Unit) × Unit × Unit × Unit) =>
  br x1.1.2.1
    (bd (grd (decide (a0.length < (1000000 : Nat))) ((a0, ()), (), ()))
      fun (x2 : (List ((Int × Int) × Int) × Unit) × Unit × Unit) =>
      br (decide ((0 : Int) ≤ x1.1.1))
        (br (decide (x1.1.1 < (↑x2.1.1.length : Int)))
          (some ((x2.1.1.set x1.1.1.toNat ((a1.1.1, a1.1.2), a1.2), ()), (), (), ())) none)
        none)
    (br (decide ((0 : Int) ≤ IntKind.i64.wrap ((↑a0.length : Int) + (1 : Int))))
      (br (decide (IntKind.i64.wrap ((↑a0.length : Int) + (1 : Int)) ≤ IntKind.i64.wrap ((↑a0.length : Int) + (1 : Int))))
        (br (decide ((IntKind.i64.wrap ((↑a0.length : Int) + (1 : Int))).toNat * (24 : Nat) ≤ LIM))
          (br (decide ((IntKind.i64.wrap ((↑a0.length : Int) + (1 : Int))).toNat ≤ LIM))
            (br (decide ((0 : Int) ≤ x1.1.1))
              (br (decide (x1.1.1 ≤ (↑a0.length : Int)))
                (br (decide ((0 : Int) ≤ x1.1.1))
                  (br
                    (decide
                      (x1.1.1 <
                        (↑(splice (List.replicate (IntKind.i64.wrap ((↑a0.length : Int) + (1 : Int))).toNat (((0 : Int), (0 : Int)), (0 : Int)))
                                (List.take x1.1.1.toNat a0) (0 : Nat)
                                (List.replicate (IntKind.i64.wrap ((↑a0.length : Int) + (1 : Int))).toNat
                                    (((0 : Int), (0 : Int)), (0 : Int))).length).length :
                          Int)))
                    (br (decide ((0 : Int) ≤ IntKind.i64.wrap (x1.1.1 + (1 : Int))))
                      (br
                        (decide
                          (IntKind.i64.wrap (x1.1.1 + (1 : Int)) ≤
                            (↑((splice (List.replicate (IntKind.i64.wrap ((↑a0.length : Int) + (1 : Int))).toNat (((0 : Int), (0 : Int)), (0 : Int)))
                                        (List.take x1.1.1.toNat a0) (0 : Nat)
                                        (List.replicate (IntKind.i64.wrap ((↑a0.length : Int) + (1 : Int))).toNat
                                            (((0 : Int), (0 : Int)), (0 : Int))).length).set
                                    x1.1.1.toNat ((a1.1.1, a1.1.2), a1.2)).length :
                              Int)))
                        (br (decide ((0 : Int) ≤ x1.1.1))
                          (br (decide (x1.1.1 ≤ (↑a0.length : Int)))
                            (some
                              ((splice
                                    ((splice
                                          (List.replicate (IntKind.i64.wrap ((↑a0.length : Int) + (1 : Int))).toNat
                                            (((0 : Int), (0 : Int)), (0 : Int)))
                                          (List.take x1.1.1.toNat a0) (0 : Nat)
                                          (List.replicate (IntKind.i64.wrap ((↑a0.length : Int) + (1 : Int))).toNat
                                              (((0 : Int), (0 : Int)), (0 : Int))).length).set
                                      x1.1.1.toNat ((a1.1.1, a1.1.2), a1.2))
                                    (List.take (a0.length - x1.1.1.toNat) (List.drop x1.1.1.toNat a0)) (IntKind.i64.wrap (x1.1.1 + (1 : Int))).toNat
                                    (((splice
                                              (List.replicate (IntKind.i64.wrap ((↑a0.length : Int) + (1 : Int))).toNat
                                                (((0 : Int), (0 : Int)), (0 : Int)))
                                              (List.take x1.1.1.toNat a0) (0 : Nat)
                                              (List.replicate (IntKind.i64.wrap ((↑a0.length : Int) + (1 : Int))).toNat
                                                  (((0 : Int), (0 : Int)), (0 : Int))).length).set
                                          x1.1.1.toNat ((a1.1.1, a1.1.2), a1.2)).length -
                                      (IntKind.i64.wrap (x1.1.1 + (1 : Int))).toNat),
                                  ()),
                                (), (), ()))
                            none)
                          none)
                        none)
                      none)
                    none)
                  none)
                none)
              none)
            none)
          none)
        none)
      none)
theorem put_rn (K : Nat) (a0 : List
  ((Int × Int) ×
    Int)) (a1 : (Int × Int) ×
  Int) : runF (cfgW g_put) K f_put put_tm [.val (.slice tCell), .val tCell] [.own tCell] (a0, a1, ()) = put_P K a0 a1 := by kernel_rfl
abbrev g_bget : List (Nat × Ctr O0) := [(n_bfind, c_bfind)]
def bget_tm : List Tm := []
def bget_P (K : Nat) (a0 : List ((Int × Int) × Int)) (a1 : Int × Int) : Option ((Int × Bool × Unit) × Unit × Unit × Unit) :=
  bd (grd (lenOk a0 && bufS a0) (((↑(cntK a0 (a1.1, a1.2)) : Int), hasK a0 (a1.1, a1.2), ()), (), (), ()))
  fun (x1 : (Int × Bool × Unit) × Unit × Unit × Unit) =>
  br (!x1.1.2.1) (some (((0 : Int), false, ()), (), (), ()))
    (br (decide ((0 : Int) ≤ x1.1.1))
      (br (decide (x1.1.1 < (↑a0.length : Int)))
        (some (((a0.getD x1.1.1.toNat (((0 : Int), (0 : Int)), (0 : Int))).2, true, ()), (), (), ())) none)
      none)
theorem bget_rn (K : Nat) (a0 : List
  ((Int × Int) ×
    Int)) (a1 : Int ×
  Int) : runF (cfgW g_bget) K f_bget bget_tm [.val (.slice tCell), .val tKey] [.val tW, .val .bool] (a0, a1, ()) = bget_P K a0 a1 := by kernel_rfl
abbrev g_rest : List (Nat × Ctr O0) := [(n_bfind, c_bfind)]
def rest_tm : List Tm := [[((0 : Nat), none, Sh.val (((Ty.int IntKind.i64).pair (Ty.int IntKind.i64)).pair (Ty.int IntKind.u16)).slice),
    ((3 : Nat), none, ((Sh.val (Ty.int IntKind.i64)).cons ((Sh.val (Ty.int IntKind.i64)).cons ((Sh.val (Ty.int IntKind.i64)).cons Sh.unit))).ptr),
    ((5 : Nat), none, Sh.own ((Ty.int IntKind.i64).pair ((Ty.int IntKind.i64).pair (Ty.int IntKind.i64)))),
    ((6 : Nat), none, Sh.val (Ty.int IntKind.i64)), ((7 : Nat), none, Sh.val (Ty.int IntKind.i64))]]
def rest_L1 (rec2 : List ((Int × Int) × Int) × (Int × Int × Int × Unit) × List (Int × Int × Int) × Int × Int × Unit →
  Option
    ((List (Int × Int × Int) × Unit) ×
      Unit ×
        Unit ×
          Unit)) : List ((Int × Int) × Int) × (Int × Int × Int × Unit) × List (Int × Int × Int) × Int × Int × Unit →
  Option ((List (Int × Int × Int) × Unit) × Unit × Unit × Unit) := fun (y4, y5, y6, y7, y8, ()) =>
  br (decide (y8 < (↑y4.length : Int)))
  (br (decide ((0 : Int) ≤ y8))
    (br (decide (y8 < (↑y4.length : Int)))
      (br ((y4.getD y8.toNat (((0 : Int), (0 : Int)), (0 : Int))).1.1 == y5.1)
        (br (decide ((0 : Int) ≤ y8))
          (br (decide (y8 < (↑y4.length : Int)))
            (br (decide ((y4.getD y8.toNat (((0 : Int), (0 : Int)), (0 : Int))).1.2 < y5.2.2.1))
              (br (decide ((0 : Int) ≤ y8))
                (br (decide (y8 < (↑y4.length : Int)))
                  (br (decide (y7 < (y4.getD y8.toNat (((0 : Int), (0 : Int)), (0 : Int))).1.2))
                    (br (decide ((y6.length + [(y5.1, y7, (y4.getD y8.toNat (((0 : Int), (0 : Int)), (0 : Int))).1.2)].length) * (24 : Nat) ≤ LIM))
                      (br (decide (y6.length + [(y5.1, y7, (y4.getD y8.toNat (((0 : Int), (0 : Int)), (0 : Int))).1.2)].length ≤ LIM))
                        (rec2
                          (y4, (y5.1, y5.2.1, y5.2.2.1, ()), cat y6 [(y5.1, y7, (y4.getD y8.toNat (((0 : Int), (0 : Int)), (0 : Int))).1.2)],
                            IntKind.i64.wrap ((y4.getD y8.toNat (((0 : Int), (0 : Int)), (0 : Int))).1.2 + (1 : Int)),
                            IntKind.i64.wrap (y8 + (1 : Int)), ()))
                        none)
                      none)
                    (rec2
                      (y4, (y5.1, y5.2.1, y5.2.2.1, ()), y6,
                        IntKind.i64.wrap ((y4.getD y8.toNat (((0 : Int), (0 : Int)), (0 : Int))).1.2 + (1 : Int)), IntKind.i64.wrap (y8 + (1 : Int)),
                        ())))
                  none)
                none)
              (br (decide (y7 < y5.2.2.1))
                (br (decide ((y6.length + [(y5.1, y7, y5.2.2.1)].length) * (24 : Nat) ≤ LIM))
                  (br (decide (y6.length + [(y5.1, y7, y5.2.2.1)].length ≤ LIM))
                    (some ((cat y6 [(y5.1, y7, y5.2.2.1)], ()), (), (), ())) none)
                  none)
                (some ((y6, ()), (), (), ()))))
            none)
          none)
        (br (decide (y7 < y5.2.2.1))
          (br (decide ((y6.length + [(y5.1, y7, y5.2.2.1)].length) * (24 : Nat) ≤ LIM))
            (br (decide (y6.length + [(y5.1, y7, y5.2.2.1)].length ≤ LIM))
              (some ((cat y6 [(y5.1, y7, y5.2.2.1)], ()), (), (), ())) none)
            none)
          (some ((y6, ()), (), (), ()))))
      none)
    none)
  (br (decide (y7 < y5.2.2.1))
    (br (decide ((y6.length + [(y5.1, y7, y5.2.2.1)].length) * (24 : Nat) ≤ LIM))
      (br (decide (y6.length + [(y5.1, y7, y5.2.2.1)].length ≤ LIM))
        (some ((cat y6 [(y5.1, y7, y5.2.2.1)], ()), (), (), ())) none)
      none)
    (some ((y6, ()), (), (), ())))
def rest_P (K : Nat) (a0 : List ((Int × Int) × Int)) (a1 : Int × Int × Int) : Option ((List (Int × Int × Int) × Unit) × Unit × Unit × Unit) :=
  bd (grd (lenOk a0 && bufS a0) (((↑(cntK a0 (a1.1, a1.2.1)) : Int), hasK a0 (a1.1, a1.2.1), ()), (), (), ()))
  fun (x1 : (Int × Bool × Unit) × Unit × Unit × Unit) => loopN rest_L1 K (a0, (a1.1, a1.2.1, a1.2.2, ()), [], a1.2.1, x1.1.1, ())
theorem rest_rn (K : Nat) (a0 : List
  ((Int × Int) ×
    Int)) (a1 : Int ×
  Int × Int) : runF (cfgW g_rest) K f_rest rest_tm [.val (.slice tCell), .val tSpan] [.own tSpan] (a0, a1, ()) = rest_P K a0 a1 := by kernel_rfl
abbrev g_rless : List (Nat × Ctr O0) := []
def rless_tm : List Tm := []
def rless_P (K : Nat) (a0 : Int × Int) (a1 : Int × Int) : Option ((Bool × Unit) × Unit × Unit × Unit) :=
  br (decide (a0.1 < a1.1)) (some ((true, ()), (), (), ()))
  (br (a0.1 == a1.1) (some ((decide (a0.2 < a1.2), ()), (), (), ()))
    (some ((false, ()), (), (), ())))
theorem rless_rn (K : Nat) (a0 : Int ×
  Int) (a1 : Int × Int) : runF (cfgW g_rless) K f_rless rless_tm [.val tKey, .val tKey] [.val .bool] (a0, a1, ()) = rless_P K a0 a1 := by kernel_rfl
abbrev g_rbfind : List (Nat × Ctr O0) := [(n_rless, c_rless)]
def rbfind_tm : List Tm := [[((0 : Nat), none, Sh.val (((Ty.int IntKind.i64).pair (Ty.int IntKind.i64)).pair (Ty.int IntKind.u16)).slice),
    ((3 : Nat), none, ((Sh.val (Ty.int IntKind.i64)).cons ((Sh.val (Ty.int IntKind.i64)).cons Sh.unit)).ptr),
    ((6 : Nat), none, Sh.val (Ty.int IntKind.i64)), ((7 : Nat), none, Sh.val (Ty.int IntKind.i64))]]
def rbfind_L1 (rec1 : List ((Int × Int) × Int) × (Int × Int × Unit) × Int × Int × Unit →
  Option
    ((Int × Bool × Unit) ×
      Unit ×
        Unit ×
          Unit)) : List ((Int × Int) × Int) × (Int × Int × Unit) × Int × Int × Unit →
  Option ((Int × Bool × Unit) × Unit × Unit × Unit) := fun (y3, y4, y5, y6, ()) =>
  br (decide (y5 < y6))
  (br (!false)
    (br (decide ((0 : Int) ≤ IntKind.i64.wrap ((IntKind.i64.wrap (y5 + y6)).tdiv (2 : Int))))
      (br (decide (IntKind.i64.wrap ((IntKind.i64.wrap (y5 + y6)).tdiv (2 : Int)) < (↑y3.length : Int)))
        (br
          (keyLt
            ((y3.getD (IntKind.i64.wrap ((IntKind.i64.wrap (y5 + y6)).tdiv (2 : Int))).toNat (((0 : Int), (0 : Int)), (0 : Int))).1.1,
              (y3.getD (IntKind.i64.wrap ((IntKind.i64.wrap (y5 + y6)).tdiv (2 : Int))).toNat (((0 : Int), (0 : Int)), (0 : Int))).1.2)
            (y4.1, y4.2.1))
          (rec1
            (y3, (y4.1, y4.2.1, ()), IntKind.i64.wrap (IntKind.i64.wrap ((IntKind.i64.wrap (y5 + y6)).tdiv (2 : Int)) + (1 : Int)), y6,
              ()))
          (rec1 (y3, (y4.1, y4.2.1, ()), y5, IntKind.i64.wrap ((IntKind.i64.wrap (y5 + y6)).tdiv (2 : Int)), ())))
        none)
      none)
    none)
  (br (decide (y5 < (↑y3.length : Int)))
    (br (decide ((0 : Int) ≤ y5))
      (br (decide (y5 < (↑y3.length : Int)))
        (some
          ((y5,
              (y3.getD y5.toNat (((0 : Int), (0 : Int)), (0 : Int))).1.1 == y4.1 &&
                (y3.getD y5.toNat (((0 : Int), (0 : Int)), (0 : Int))).1.2 == y4.2.1,
              ()),
            (), (), ()))
        none)
      none)
    (some ((y5, false, ()), (), (), ())))
def rbfind_P (K : Nat) (a0 : List ((Int × Int) × Int)) (a1 : Int × Int) : Option ((Int × Bool × Unit) × Unit × Unit × Unit) :=
  loopN rbfind_L1 K (a0, (a1.1, a1.2, ()), (0 : Int), (↑a0.length : Int), ())
theorem rbfind_rn (K : Nat) (a0 : List
  ((Int × Int) ×
    Int)) (a1 : Int ×
  Int) : runF (cfgW g_rbfind) K f_rbfind rbfind_tm [.val (.slice tCell), .val tKey] [.val tI, .val .bool] (a0, a1, ()) = rbfind_P K a0 a1 := by kernel_rfl
abbrev g_rput : List (Nat × Ctr O0) := [(n_rbfind, c_rbfind)]
def rput_tm : List Tm := []
def rput_P (K : Nat) (a0 : List ((Int × Int) × Int)) (a1 : (Int × Int) × Int) : Option ((List ((Int × Int) × Int) × Unit) × Unit × Unit × Unit) :=
  bd (grd (lenOk a0 && bufS a0) (((↑(cntK a0 (a1.1.1, a1.1.2)) : Int), hasK a0 (a1.1.1, a1.1.2), ()), (), (), ()))
  fun (x1 : (Int × Bool × Unit) × Unit × Unit × Unit) =>
  br (decide ((0 : Int) ≤ x1.1.1))
    (br (decide (x1.1.1 ≤ (↑a0.length : Int)))
      (br (decide ((List.take x1.1.1.toNat a0).length * (24 : Nat) ≤ LIM))
        (br (decide ((List.take x1.1.1.toNat a0).length ≤ LIM))
          (br (decide (((List.take x1.1.1.toNat a0).length + [((a1.1.1, a1.1.2), a1.2)].length) * (24 : Nat) ≤ LIM))
            (br (decide ((List.take x1.1.1.toNat a0).length + [((a1.1.1, a1.1.2), a1.2)].length ≤ LIM))
              (br x1.1.2.1
                (br (decide ((0 : Int) ≤ IntKind.i64.wrap (x1.1.1 + (1 : Int))))
                  (br (decide (IntKind.i64.wrap (x1.1.1 + (1 : Int)) ≤ (↑a0.length : Int)))
                    (br
                      (decide
                        (((cat (List.take x1.1.1.toNat a0) [((a1.1.1, a1.1.2), a1.2)]).length +
                              (List.take (a0.length - (IntKind.i64.wrap (x1.1.1 + (1 : Int))).toNat)
                                  (List.drop (IntKind.i64.wrap (x1.1.1 + (1 : Int))).toNat a0)).length) *
                            (24 : Nat) ≤
                          LIM))
                      (br
                        (decide
                          ((cat (List.take x1.1.1.toNat a0) [((a1.1.1, a1.1.2), a1.2)]).length +
                              (List.take (a0.length - (IntKind.i64.wrap (x1.1.1 + (1 : Int))).toNat)
                                  (List.drop (IntKind.i64.wrap (x1.1.1 + (1 : Int))).toNat a0)).length ≤
                            LIM))
                        (some
                          ((cat (cat (List.take x1.1.1.toNat a0) [((a1.1.1, a1.1.2), a1.2)])
                                (List.take (a0.length - (IntKind.i64.wrap (x1.1.1 + (1 : Int))).toNat)
                                  (List.drop (IntKind.i64.wrap (x1.1.1 + (1 : Int))).toNat a0)),
                              ()),
                            (), (), ()))
                        none)
                      none)
                    none)
                  none)
                (br (decide ((0 : Int) ≤ x1.1.1))
                  (br (decide (x1.1.1 ≤ (↑a0.length : Int)))
                    (br
                      (decide
                        (((cat (List.take x1.1.1.toNat a0) [((a1.1.1, a1.1.2), a1.2)]).length +
                              (List.take (a0.length - x1.1.1.toNat) (List.drop x1.1.1.toNat a0)).length) *
                            (24 : Nat) ≤
                          LIM))
                      (br
                        (decide
                          ((cat (List.take x1.1.1.toNat a0) [((a1.1.1, a1.1.2), a1.2)]).length +
                              (List.take (a0.length - x1.1.1.toNat) (List.drop x1.1.1.toNat a0)).length ≤
                            LIM))
                        (some
                          ((cat (cat (List.take x1.1.1.toNat a0) [((a1.1.1, a1.1.2), a1.2)])
                                (List.take (a0.length - x1.1.1.toNat) (List.drop x1.1.1.toNat a0)),
                              ()),
                            (), (), ()))
                        none)
                      none)
                    none)
                  none))
              none)
            none)
          none)
        none)
      none)
    none
theorem rput_rn (K : Nat) (a0 : List
  ((Int × Int) ×
    Int)) (a1 : (Int × Int) ×
  Int) : runF (cfgW g_rput) K f_rput rput_tm [.val (.slice tCell), .val tCell] [.own tCell] (a0, a1, ()) = rput_P K a0 a1 := by kernel_rfl
abbrev g_rbget : List (Nat × Ctr O0) := [(n_rbfind, c_rbfind)]
def rbget_tm : List Tm := []
def rbget_P (K : Nat) (a0 : List ((Int × Int) × Int)) (a1 : Int × Int) : Option ((Int × Bool × Unit) × Unit × Unit × Unit) :=
  bd (grd (lenOk a0 && bufS a0) (((↑(cntK a0 (a1.1, a1.2)) : Int), hasK a0 (a1.1, a1.2), ()), (), (), ()))
  fun (x1 : (Int × Bool × Unit) × Unit × Unit × Unit) =>
  br (!x1.1.2.1) (some (((0 : Int), false, ()), (), (), ()))
    (br (decide ((0 : Int) ≤ x1.1.1))
      (br (decide (x1.1.1 < (↑a0.length : Int)))
        (some (((a0.getD x1.1.1.toNat (((0 : Int), (0 : Int)), (0 : Int))).2, true, ()), (), (), ())) none)
      none)
theorem rbget_rn (K : Nat) (a0 : List
  ((Int × Int) ×
    Int)) (a1 : Int ×
  Int) : runF (cfgW g_rbget) K f_rbget rbget_tm [.val (.slice tCell), .val tKey] [.val tW, .val .bool] (a0, a1, ()) = rbget_P K a0 a1 := by kernel_rfl
abbrev g_rcut : List (Nat × Ctr O0) := []
def rcut_tm : List Tm := [[((0 : Nat), none, Sh.val ((Ty.int IntKind.i64).pair ((Ty.int IntKind.i64).pair (Ty.int IntKind.i64))).slice),
    ((3 : Nat), none, ((Sh.val (Ty.int IntKind.i64)).cons ((Sh.val (Ty.int IntKind.i64)).cons ((Sh.val (Ty.int IntKind.i64)).cons Sh.unit))).ptr),
    ((5 : Nat), none, Sh.own ((Ty.int IntKind.i64).pair ((Ty.int IntKind.i64).pair (Ty.int IntKind.i64)))),
    ((6 : Nat), none, Sh.val (Ty.int IntKind.i64))]]
def rcut_L1 (rec1 : List (Int × Int × Int) × (Int × Int × Int × Unit) × List (Int × Int × Int) × Int × Unit →
  Option
    ((List (Int × Int × Int) × Unit) ×
      Unit ×
        Unit ×
          Unit)) : List (Int × Int × Int) × (Int × Int × Int × Unit) × List (Int × Int × Int) × Int × Unit →
  Option ((List (Int × Int × Int) × Unit) × Unit × Unit × Unit) := fun (y3, y4, y5, y6, ()) =>
  br (decide (y6 < (↑y3.length : Int)))
  (br (decide ((0 : Int) ≤ y6))
    (br (decide (y6 < (↑y3.length : Int)))
      (br ((y3.getD y6.toNat ((0 : Int), (0 : Int), (0 : Int))).1 != y4.1)
        (br
          (decide
            ((y5.length +
                  [((y3.getD y6.toNat ((0 : Int), (0 : Int), (0 : Int))).1, (y3.getD y6.toNat ((0 : Int), (0 : Int), (0 : Int))).2.1,
                        (y3.getD y6.toNat ((0 : Int), (0 : Int), (0 : Int))).2.2)].length) *
                (24 : Nat) ≤
              LIM))
          (br
            (decide
              (y5.length +
                  [((y3.getD y6.toNat ((0 : Int), (0 : Int), (0 : Int))).1, (y3.getD y6.toNat ((0 : Int), (0 : Int), (0 : Int))).2.1,
                        (y3.getD y6.toNat ((0 : Int), (0 : Int), (0 : Int))).2.2)].length ≤
                LIM))
            (rec1
              (y3, (y4.1, y4.2.1, y4.2.2.1, ()),
                cat y5
                  [((y3.getD y6.toNat ((0 : Int), (0 : Int), (0 : Int))).1, (y3.getD y6.toNat ((0 : Int), (0 : Int), (0 : Int))).2.1,
                      (y3.getD y6.toNat ((0 : Int), (0 : Int), (0 : Int))).2.2)],
                IntKind.i64.wrap (y6 + (1 : Int)), ()))
            none)
          none)
        (br (decide ((y3.getD y6.toNat ((0 : Int), (0 : Int), (0 : Int))).2.2 ≤ y4.2.1))
          (br
            (decide
              ((y5.length +
                    [((y3.getD y6.toNat ((0 : Int), (0 : Int), (0 : Int))).1, (y3.getD y6.toNat ((0 : Int), (0 : Int), (0 : Int))).2.1,
                          (y3.getD y6.toNat ((0 : Int), (0 : Int), (0 : Int))).2.2)].length) *
                  (24 : Nat) ≤
                LIM))
            (br
              (decide
                (y5.length +
                    [((y3.getD y6.toNat ((0 : Int), (0 : Int), (0 : Int))).1, (y3.getD y6.toNat ((0 : Int), (0 : Int), (0 : Int))).2.1,
                          (y3.getD y6.toNat ((0 : Int), (0 : Int), (0 : Int))).2.2)].length ≤
                  LIM))
              (rec1
                (y3, (y4.1, y4.2.1, y4.2.2.1, ()),
                  cat y5
                    [((y3.getD y6.toNat ((0 : Int), (0 : Int), (0 : Int))).1, (y3.getD y6.toNat ((0 : Int), (0 : Int), (0 : Int))).2.1,
                        (y3.getD y6.toNat ((0 : Int), (0 : Int), (0 : Int))).2.2)],
                  IntKind.i64.wrap (y6 + (1 : Int)), ()))
              none)
            none)
          (br (decide ((y3.getD y6.toNat ((0 : Int), (0 : Int), (0 : Int))).2.1 ≥ y4.2.2.1))
            (br
              (decide
                ((y5.length +
                      [((y3.getD y6.toNat ((0 : Int), (0 : Int), (0 : Int))).1, (y3.getD y6.toNat ((0 : Int), (0 : Int), (0 : Int))).2.1,
                            (y3.getD y6.toNat ((0 : Int), (0 : Int), (0 : Int))).2.2)].length) *
                    (24 : Nat) ≤
                  LIM))
              (br
                (decide
                  (y5.length +
                      [((y3.getD y6.toNat ((0 : Int), (0 : Int), (0 : Int))).1, (y3.getD y6.toNat ((0 : Int), (0 : Int), (0 : Int))).2.1,
                            (y3.getD y6.toNat ((0 : Int), (0 : Int), (0 : Int))).2.2)].length ≤
                    LIM))
                (rec1
                  (y3, (y4.1, y4.2.1, y4.2.2.1, ()),
                    cat y5
                      [((y3.getD y6.toNat ((0 : Int), (0 : Int), (0 : Int))).1, (y3.getD y6.toNat ((0 : Int), (0 : Int), (0 : Int))).2.1,
                          (y3.getD y6.toNat ((0 : Int), (0 : Int), (0 : Int))).2.2)],
                    IntKind.i64.wrap (y6 + (1 : Int)), ()))
                none)
              none)
            (br (decide ((y3.getD y6.toNat ((0 : Int), (0 : Int), (0 : Int))).2.1 < y4.2.1))
              (br
                (decide
                  ((y5.length +
                        [((y3.getD y6.toNat ((0 : Int), (0 : Int), (0 : Int))).1, (y3.getD y6.toNat ((0 : Int), (0 : Int), (0 : Int))).2.1,
                              y4.2.1)].length) *
                      (24 : Nat) ≤
                    LIM))
                (br
                  (decide
                    (y5.length +
                        [((y3.getD y6.toNat ((0 : Int), (0 : Int), (0 : Int))).1, (y3.getD y6.toNat ((0 : Int), (0 : Int), (0 : Int))).2.1,
                              y4.2.1)].length ≤
                      LIM))
                  (br (decide ((y3.getD y6.toNat ((0 : Int), (0 : Int), (0 : Int))).2.2 > y4.2.2.1))
                    (br
                      (decide
                        (((cat y5
                                  [((y3.getD y6.toNat ((0 : Int), (0 : Int), (0 : Int))).1, (y3.getD y6.toNat ((0 : Int), (0 : Int), (0 : Int))).2.1,
                                      y4.2.1)]).length +
                              [((y3.getD y6.toNat ((0 : Int), (0 : Int), (0 : Int))).1, y4.2.2.1,
                                    (y3.getD y6.toNat ((0 : Int), (0 : Int), (0 : Int))).2.2)].length) *
                            (24 : Nat) ≤
                          LIM))
                      (br
                        (decide
                          ((cat y5
                                  [((y3.getD y6.toNat ((0 : Int), (0 : Int), (0 : Int))).1, (y3.getD y6.toNat ((0 : Int), (0 : Int), (0 : Int))).2.1,
                                      y4.2.1)]).length +
                              [((y3.getD y6.toNat ((0 : Int), (0 : Int), (0 : Int))).1, y4.2.2.1,
                                    (y3.getD y6.toNat ((0 : Int), (0 : Int), (0 : Int))).2.2)].length ≤
                            LIM))
                        (rec1
                          (y3, (y4.1, y4.2.1, y4.2.2.1, ()),
                            cat
                              (cat y5
                                [((y3.getD y6.toNat ((0 : Int), (0 : Int), (0 : Int))).1, (y3.getD y6.toNat ((0 : Int), (0 : Int), (0 : Int))).2.1,
                                    y4.2.1)])
                              [((y3.getD y6.toNat ((0 : Int), (0 : Int), (0 : Int))).1, y4.2.2.1,
                                  (y3.getD y6.toNat ((0 : Int), (0 : Int), (0 : Int))).2.2)],
                            IntKind.i64.wrap (y6 + (1 : Int)), ()))
                        none)
                      none)
                    (rec1
                      (y3, (y4.1, y4.2.1, y4.2.2.1, ()),
                        cat y5
                          [((y3.getD y6.toNat ((0 : Int), (0 : Int), (0 : Int))).1, (y3.getD y6.toNat ((0 : Int), (0 : Int), (0 : Int))).2.1,
                              y4.2.1)],
                        IntKind.i64.wrap (y6 + (1 : Int)), ())))
                  none)
                none)
              (br (decide ((y3.getD y6.toNat ((0 : Int), (0 : Int), (0 : Int))).2.2 > y4.2.2.1))
                (br
                  (decide
                    ((y5.length +
                          [((y3.getD y6.toNat ((0 : Int), (0 : Int), (0 : Int))).1, y4.2.2.1,
                                (y3.getD y6.toNat ((0 : Int), (0 : Int), (0 : Int))).2.2)].length) *
                        (24 : Nat) ≤
                      LIM))
                  (br
                    (decide
                      (y5.length +
                          [((y3.getD y6.toNat ((0 : Int), (0 : Int), (0 : Int))).1, y4.2.2.1,
                                (y3.getD y6.toNat ((0 : Int), (0 : Int), (0 : Int))).2.2)].length ≤
                        LIM))
                    (rec1
                      (y3, (y4.1, y4.2.1, y4.2.2.1, ()),
                        cat y5
                          [((y3.getD y6.toNat ((0 : Int), (0 : Int), (0 : Int))).1, y4.2.2.1,
                              (y3.getD y6.toNat ((0 : Int), (0 : Int), (0 : Int))).2.2)],
                        IntKind.i64.wrap (y6 + (1 : Int)), ()))
                    none)
                  none)
                (rec1 (y3, (y4.1, y4.2.1, y4.2.2.1, ()), y5, IntKind.i64.wrap (y6 + (1 : Int)), ())))))))
      none)
    none)
  (some ((y5, ()), (), (), ()))
def rcut_P (K : Nat) (a0 : List (Int × Int × Int)) (a1 : Int × Int × Int) : Option ((List (Int × Int × Int) × Unit) × Unit × Unit × Unit) :=
  loopN rcut_L1 K (a0, (a1.1, a1.2.1, a1.2.2, ()), [], (0 : Int), ())
theorem rcut_rn (K : Nat) (a0 : List
  (Int ×
    Int ×
      Int)) (a1 : Int ×
  Int × Int) : runF (cfgW g_rcut) K f_rcut rcut_tm [.val (.slice tSpan), .val tSpan] [.own tSpan] (a0, a1, ()) = rcut_P K a0 a1 := by kernel_rfl
abbrev g_rrest : List (Nat × Ctr O0) := [(n_rcut, c_rcut)]
def rrest_tm : List Tm := [[((0 : Nat), none, Sh.val (((Ty.int IntKind.i64).pair (Ty.int IntKind.i64)).pair (Ty.int IntKind.u16)).slice),
    ((3 : Nat), none, ((Sh.val (Ty.int IntKind.i64)).cons ((Sh.val (Ty.int IntKind.i64)).cons ((Sh.val (Ty.int IntKind.i64)).cons Sh.unit))).ptr),
    ((5 : Nat), none, Sh.own ((Ty.int IntKind.i64).pair ((Ty.int IntKind.i64).pair (Ty.int IntKind.i64)))),
    ((6 : Nat), none, Sh.val (Ty.int IntKind.i64))]]
def rrest_L1 (rec1 : List ((Int × Int) × Int) × (Int × Int × Int × Unit) × List (Int × Int × Int) × Int × Unit →
  Option
    ((List (Int × Int × Int) × Unit) ×
      Unit ×
        Unit ×
          Unit)) : List ((Int × Int) × Int) × (Int × Int × Int × Unit) × List (Int × Int × Int) × Int × Unit →
  Option ((List (Int × Int × Int) × Unit) × Unit × Unit × Unit) := fun (y3, y4, y5, y6, ()) =>
  br (decide (y6 < (↑y3.length : Int)))
  (br (decide ((0 : Int) ≤ y6))
    (br (decide (y6 < (↑y3.length : Int)))
      (br ((y3.getD y6.toNat (((0 : Int), (0 : Int)), (0 : Int))).1.1 == y4.1)
        (br (decide ((y3.getD y6.toNat (((0 : Int), (0 : Int)), (0 : Int))).1.2 ≥ y4.2.1))
          (br (decide ((y3.getD y6.toNat (((0 : Int), (0 : Int)), (0 : Int))).1.2 < y4.2.2.1))
            (bd
              (grd (lenOk y5)
                ((cutS y5
                      ((y3.getD y6.toNat (((0 : Int), (0 : Int)), (0 : Int))).1.1, (y3.getD y6.toNat (((0 : Int), (0 : Int)), (0 : Int))).1.2,
                        IntKind.i64.wrap ((y3.getD y6.toNat (((0 : Int), (0 : Int)), (0 : Int))).1.2 + (1 : Int))),
                    ()),
                  (), (), ()))
              fun (x7 : (List (Int × Int × Int) × Unit) × Unit × Unit × Unit) =>
              rec1 (y3, (y4.1, y4.2.1, y4.2.2.1, ()), x7.1.1, IntKind.i64.wrap (y6 + (1 : Int)), ()))
            (rec1 (y3, (y4.1, y4.2.1, y4.2.2.1, ()), y5, IntKind.i64.wrap (y6 + (1 : Int)), ())))
          (rec1 (y3, (y4.1, y4.2.1, y4.2.2.1, ()), y5, IntKind.i64.wrap (y6 + (1 : Int)), ())))
        (rec1 (y3, (y4.1, y4.2.1, y4.2.2.1, ()), y5, IntKind.i64.wrap (y6 + (1 : Int)), ())))
      none)
    none)
  (some ((y5, ()), (), (), ()))
def rrest_P (K : Nat) (a0 : List ((Int × Int) × Int)) (a1 : Int × Int × Int) : Option ((List (Int × Int × Int) × Unit) × Unit × Unit × Unit) :=
  loopN rrest_L1 K (a0, (a1.1, a1.2.1, a1.2.2, ()), [(a1.1, a1.2.1, a1.2.2)], (0 : Int), ())
theorem rrest_rn (K : Nat) (a0 : List
  ((Int × Int) ×
    Int)) (a1 : Int ×
  Int × Int) : runF (cfgW g_rrest) K f_rrest rrest_tm [.val (.slice tCell), .val tSpan] [.own tSpan] (a0, a1, ()) = rrest_P K a0 a1 := by kernel_rfl
abbrev g_rspanRight : List (Nat × Ctr O0) := []
def rspanRight_tm : List Tm := []
def rspanRight_P (K : Nat) (a0 : Int × Int × Int) : Option ((Bool × Unit) × Unit × Unit) :=
  br (decide (a0.1 ≥ (0 : Int)))
  (br (decide (a0.1 ≤ (3 : Int)))
    (br (decide (a0.2.1 ≥ (0 : Int)))
      (br (decide (a0.2.2 ≤ (65536 : Int))) (some ((decide (a0.2.1 < a0.2.2), ()), (), ()))
        (some ((false, ()), (), ())))
      (some ((false, ()), (), ())))
    (some ((false, ()), (), ())))
  (some ((false, ()), (), ()))
theorem rspanRight_rn (K : Nat) (a0 : Int ×
  Int × Int) : runF (cfgW g_rspanRight) K f_rspanRight rspanRight_tm [.val tSpan] [.val .bool] (a0, ()) = rspanRight_P K a0 := by kernel_rfl
abbrev g_rcanon : List (Nat × Ctr O0) := [(n_rspanRight, c_rspanRight)]
def rcanon_tm : List Tm := [[((0 : Nat), none, Sh.val ((Ty.int IntKind.i64).pair ((Ty.int IntKind.i64).pair (Ty.int IntKind.i64))).slice),
    ((3 : Nat), none, Sh.val (Ty.int IntKind.i64))]]
def rcanon_L1 (rec1 : List (Int × Int × Int) × Int × Unit →
  Option ((Bool × Unit) × Unit × Unit)) : List (Int × Int × Int) × Int × Unit → Option ((Bool × Unit) × Unit × Unit) := fun (y3, y4, ()) =>
  br (decide (y4 < (↑y3.length : Int)))
  (br (decide ((0 : Int) ≤ y4))
    (br (decide (y4 < (↑y3.length : Int)))
      (br
        (!spanR
            ((y3.getD y4.toNat ((0 : Int), (0 : Int), (0 : Int))).1, (y3.getD y4.toNat ((0 : Int), (0 : Int), (0 : Int))).2.1,
              (y3.getD y4.toNat ((0 : Int), (0 : Int), (0 : Int))).2.2))
        (some ((false, ()), (), ()))
        (br (decide (y4 > (0 : Int)))
          (br (decide ((0 : Int) ≤ IntKind.i64.wrap (y4 - (1 : Int))))
            (br (decide (IntKind.i64.wrap (y4 - (1 : Int)) < (↑y3.length : Int)))
              (br (decide ((0 : Int) ≤ y4))
                (br (decide (y4 < (↑y3.length : Int)))
                  (br
                    (decide
                      ((y3.getD (IntKind.i64.wrap (y4 - (1 : Int))).toNat ((0 : Int), (0 : Int), (0 : Int))).1 >
                        (y3.getD y4.toNat ((0 : Int), (0 : Int), (0 : Int))).1))
                    (some ((false, ()), (), ()))
                    (br (decide ((0 : Int) ≤ IntKind.i64.wrap (y4 - (1 : Int))))
                      (br (decide (IntKind.i64.wrap (y4 - (1 : Int)) < (↑y3.length : Int)))
                        (br (decide ((0 : Int) ≤ y4))
                          (br (decide (y4 < (↑y3.length : Int)))
                            (br
                              ((y3.getD (IntKind.i64.wrap (y4 - (1 : Int))).toNat ((0 : Int), (0 : Int), (0 : Int))).1 ==
                                (y3.getD y4.toNat ((0 : Int), (0 : Int), (0 : Int))).1)
                              (br (decide ((0 : Int) ≤ IntKind.i64.wrap (y4 - (1 : Int))))
                                (br (decide (IntKind.i64.wrap (y4 - (1 : Int)) < (↑y3.length : Int)))
                                  (br (decide ((0 : Int) ≤ y4))
                                    (br (decide (y4 < (↑y3.length : Int)))
                                      (br
                                        (decide
                                          ((y3.getD (IntKind.i64.wrap (y4 - (1 : Int))).toNat ((0 : Int), (0 : Int), (0 : Int))).2.2 ≥
                                            (y3.getD y4.toNat ((0 : Int), (0 : Int), (0 : Int))).2.1))
                                        (some ((false, ()), (), ()))
                                        (rec1 (y3, IntKind.i64.wrap (y4 + (1 : Int)), ())))
                                      none)
                                    none)
                                  none)
                                none)
                              (rec1 (y3, IntKind.i64.wrap (y4 + (1 : Int)), ())))
                            none)
                          none)
                        none)
                      none))
                  none)
                none)
              none)
            none)
          (rec1 (y3, IntKind.i64.wrap (y4 + (1 : Int)), ()))))
      none)
    none)
  (some ((true, ()), (), ()))
def rcanon_P (K : Nat) (a0 : List (Int × Int × Int)) : Option ((Bool × Unit) × Unit × Unit) :=
  loopN rcanon_L1 K (a0, (0 : Int), ())
theorem rcanon_rn (K : Nat) (a0 : List
  (Int × Int × Int)) : runF (cfgW g_rcanon) K f_rcanon rcanon_tm [.val (.slice tSpan)] [.val .bool] (a0, ()) = rcanon_P K a0 := by kernel_rfl
abbrev g_rhas : List (Nat × Ctr O0) := []
def rhas_tm : List Tm := [[((0 : Nat), none, Sh.val ((Ty.int IntKind.i64).pair ((Ty.int IntKind.i64).pair (Ty.int IntKind.i64))).slice),
    ((3 : Nat), none, ((Sh.val (Ty.int IntKind.i64)).cons ((Sh.val (Ty.int IntKind.i64)).cons Sh.unit)).ptr),
    ((5 : Nat), none, Sh.val (Ty.int IntKind.i64))]]
def rhas_L1 (rec1 : List (Int × Int × Int) × (Int × Int × Unit) × Int × Unit →
  Option
    ((Bool × Unit) ×
      Unit ×
        Unit ×
          Unit)) : List (Int × Int × Int) × (Int × Int × Unit) × Int × Unit →
  Option ((Bool × Unit) × Unit × Unit × Unit) := fun (y3, y4, y5, ()) =>
  br (decide (y5 < (↑y3.length : Int)))
  (br (decide ((0 : Int) ≤ y5))
    (br (decide (y5 < (↑y3.length : Int)))
      (br ((y3.getD y5.toNat ((0 : Int), (0 : Int), (0 : Int))).1 == y4.1)
        (br (decide ((0 : Int) ≤ y5))
          (br (decide (y5 < (↑y3.length : Int)))
            (br (decide ((y3.getD y5.toNat ((0 : Int), (0 : Int), (0 : Int))).2.1 ≤ y4.2.1))
              (br (decide ((0 : Int) ≤ y5))
                (br (decide (y5 < (↑y3.length : Int)))
                  (br (decide (y4.2.1 < (y3.getD y5.toNat ((0 : Int), (0 : Int), (0 : Int))).2.2))
                    (some ((true, ()), (), (), ()))
                    (rec1 (y3, (y4.1, y4.2.1, ()), IntKind.i64.wrap (y5 + (1 : Int)), ())))
                  none)
                none)
              (rec1 (y3, (y4.1, y4.2.1, ()), IntKind.i64.wrap (y5 + (1 : Int)), ())))
            none)
          none)
        (rec1 (y3, (y4.1, y4.2.1, ()), IntKind.i64.wrap (y5 + (1 : Int)), ())))
      none)
    none)
  (some ((false, ()), (), (), ()))
def rhas_P (K : Nat) (a0 : List (Int × Int × Int)) (a1 : Int × Int) : Option ((Bool × Unit) × Unit × Unit × Unit) :=
  loopN rhas_L1 K (a0, (a1.1, a1.2, ()), (0 : Int), ())
theorem rhas_rn (K : Nat) (a0 : List
  (Int ×
    Int ×
      Int)) (a1 : Int ×
  Int) : runF (cfgW g_rhas) K f_rhas rhas_tm [.val (.slice tSpan), .val tKey] [.val .bool] (a0, a1, ()) = rhas_P K a0 a1 := by kernel_rfl
abbrev g_span : List (Nat × Ctr O0) := [(n_within, c_within), (n_digit, c_digit)]
def span_tm : List Tm := []
def span_P (K : Nat) (a0 : Int) : Option (((Int × Int × Int) × Unit) × Unit × Unit) :=
  bd (grd (true && decide ((4 : Int) < (4611686018427387904 : Int))) ((a0 % (4 : Int), ()), (), (), ()))
  fun (x1 : (Int × Unit) × Unit × Unit × Unit) =>
  bd
    (grd (true && (true && decide ((40 : Int) < (4611686018427387904 : Int))))
      ((digitS a0 (4 : Int) (40 : Int), ()), (), (), (), ()))
    fun (x2 : (Int × Unit) × Unit × Unit × Unit × Unit) =>
    bd
      (grd (true && (true && decide ((12 : Int) < (4611686018427387904 : Int))))
        ((digitS a0 (160 : Int) (12 : Int), ()), (), (), (), ()))
      fun (x3 : (Int × Unit) × Unit × Unit × Unit × Unit) =>
      bd
        (grd (true && (true && decide ((16 : Int) < (4611686018427387904 : Int))))
          ((digitS a0 (1920 : Int) (16 : Int), ()), (), (), (), ()))
        fun (x4 : (Int × Unit) × Unit × Unit × Unit × Unit) =>
        br (x4.1.1 == (0 : Int))
          (some
            (((x1.1.1, IntKind.i64.wrap ((65496 : Int) + x2.1.1),
                  minI (IntKind.i64.wrap (IntKind.i64.wrap ((65496 : Int) + x2.1.1) + IntKind.i64.wrap ((1 : Int) + x3.1.1))) (65536 : Int)),
                ()),
              (), ()))
          (br (x4.1.1 == (1 : Int))
            (bd
              (grd (true && (true && decide ((12 : Int) < (4611686018427387904 : Int))))
                ((digitS a0 (160 : Int) (12 : Int), ()), (), (), (), ()))
              fun (x5 : (Int × Unit) × Unit × Unit × Unit × Unit) =>
              some
                (((x1.1.1, x2.1.1,
                      minI (IntKind.i64.wrap (x2.1.1 + IntKind.i64.wrap ((1 : Int) + IntKind.i64.wrap ((100 : Int) * x5.1.1)))) (65536 : Int)),
                    ()),
                  (), ()))
            (some
              (((x1.1.1, x2.1.1, minI (IntKind.i64.wrap (x2.1.1 + IntKind.i64.wrap ((1 : Int) + x3.1.1))) (65536 : Int)), ()), (),
                ())))
theorem span_rn (K : Nat) (a0 : Int) : runF (cfgW g_span) K f_span span_tm [.val tI] [.val tSpan] (a0, ()) = span_P K a0 := by kernel_rfl
abbrev g_key : List (Nat × Ctr O0) := [(n_within, c_within), (n_digit, c_digit)]
def key_tm : List Tm := []
def key_P (K : Nat) (a0 : Int) : Option (((Int × Int) × Unit) × Unit × Unit) :=
  bd (grd (true && decide ((4 : Int) < (4611686018427387904 : Int))) ((a0 % (4 : Int), ()), (), (), ()))
  fun (x1 : (Int × Unit) × Unit × Unit × Unit) =>
  bd
    (grd (true && (true && decide ((16 : Int) < (4611686018427387904 : Int))))
      ((digitS a0 (4 : Int) (16 : Int), ()), (), (), (), ()))
    fun (x2 : (Int × Unit) × Unit × Unit × Unit × Unit) =>
    bd
      (grd (true && (true && decide ((16 : Int) < (4611686018427387904 : Int))))
        ((digitS a0 (64 : Int) (16 : Int), ()), (), (), (), ()))
      fun (x3 : (Int × Unit) × Unit × Unit × Unit × Unit) =>
      br (x3.1.1 == (0 : Int)) (some (((x1.1.1, IntKind.i64.wrap ((65535 : Int) - x2.1.1)), ()), (), ()))
        (some (((x1.1.1, x2.1.1), ()), (), ()))
theorem key_rn (K : Nat) (a0 : Int) : runF (cfgW g_key) K f_key key_tm [.val tI] [.val tKey] (a0, ()) = key_P K a0 := by kernel_rfl
abbrev g_cell : List (Nat × Ctr O0) := [(n_key, c_key), (n_digit, c_digit)]
def cell_tm : List Tm := []
def cell_P (K : Nat) (a0 : Int) : Option ((((Int × Int) × Int) × Unit) × Unit × Unit) :=
  bd
  (grd (decide ((0 : Int) < (1024 : Int)) && (decide ((0 : Int) < (65536 : Int)) && decide ((65536 : Int) < (4611686018427387904 : Int))))
    ((digitS a0 (1024 : Int) (65536 : Int), ()), (), (), (), ()))
  fun (x1 : (Int × Unit) × Unit × Unit × Unit × Unit) =>
  br (decide ((keyS a0).1 < (2 : Int)))
    (br (!false) (some (((((keyS a0).1, (keyS a0).2), (IntKind.u16.wrap x1.1.1).tmod (2 : Int)), ()), (), ())) none)
    (some (((((keyS a0).1, (keyS a0).2), IntKind.u16.wrap x1.1.1), ()), (), ()))
theorem cell_rn (K : Nat) (a0 : Int) : runF (cfgW g_cell) K f_cell cell_tm [.val tI] [.val tCell] (a0, ()) = cell_P K a0 := by kernel_rfl
abbrev g_cells : List (Nat × Ctr O0) := [(n_cell, c_cell), (n_rput, c_rput)]
def cells_tm : List Tm := [[((0 : Nat), none, Sh.val (Ty.int IntKind.i64).slice),
    ((3 : Nat), none, Sh.own (((Ty.int IntKind.i64).pair (Ty.int IntKind.i64)).pair (Ty.int IntKind.u16))),
    ((4 : Nat), none, Sh.val (Ty.int IntKind.i64))]]
def cells_L1 (rec1 : List Int × List ((Int × Int) × Int) × Int × Unit →
  Option
    ((List ((Int × Int) × Int) × Unit) ×
      Unit ×
        Unit)) : List Int × List ((Int × Int) × Int) × Int × Unit →
  Option ((List ((Int × Int) × Int) × Unit) × Unit × Unit) := fun (y3, y4, y5, ()) =>
  br (decide (y5 < (↑y3.length : Int)))
  (br (decide (y5 < (20 : Int)))
    (br (decide ((0 : Int) ≤ y5))
      (br (decide (y5 < (↑y3.length : Int)))
        (bd
          (grd (lenOk y4 && bufS y4)
            ((putK y4 (((cellS (y3.getD y5.toNat (0 : Int))).1.1, (cellS (y3.getD y5.toNat (0 : Int))).1.2), (cellS (y3.getD y5.toNat (0 : Int))).2),
                ()),
              (), (), ()))
          fun (x6 : (List ((Int × Int) × Int) × Unit) × Unit × Unit × Unit) => rec1 (y3, x6.1.1, IntKind.i64.wrap (y5 + (1 : Int)), ()))
        none)
      none)
    (some ((y4, ()), (), ())))
  (some ((y4, ()), (), ()))
def cells_P (K : Nat) (a0 : List Int) : Option ((List ((Int × Int) × Int) × Unit) × Unit × Unit) :=
  loopN cells_L1 K (a0, [], (0 : Int), ())
theorem cells_rn (K : Nat) (a0 : List
  Int) : runF (cfgW g_cells) K f_cells cells_tm [.val (.slice tI)] [.own tCell] (a0, ()) = cells_P K a0 := by kernel_rfl
end
end Go.BB
