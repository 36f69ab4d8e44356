/- A symbolic machine for the model's code, and what it shows of this seat's functions. No conditions. -/
import Derived.Test.YteaomngbkklfoaaRN
import Derived.Test.YteaomngbkklfoaaRSView
set_option linter.unusedSimpArgs false
set_option linter.unusedVariables false
namespace Go.BB
open Go Go.Proofs
set_option maxRecDepth 100000
set_option exponentiation.threshold 100000
noncomputable section
abbrev g_spanAhead : List (Nat × Ctr O0) := []
def spanAhead_tm : List Tm := []
def spanAhead_P (K : Nat) (a0 : Int × Int × Int) (a1 : Int × Int × Int) : Option ((Bool × Unit) × Unit × Unit × Unit) :=
  br (decide (a0.1 < a1.1)) (some ((true, ()), (), (), ()))
  (br (a0.1 == a1.1) (some ((decide (a0.2.2 < a1.2.1), ()), (), (), ()))
    (some ((false, ()), (), (), ())))
theorem spanAhead_rn (K : Nat) (a0 : Int ×
  Int ×
    Int) (a1 : Int ×
  Int ×
    Int) : runF (cfgW g_spanAhead) K f_spanAhead spanAhead_tm [.val tSpan, .val tSpan] [.val .bool] (a0, a1, ()) = spanAhead_P K a0 a1 := by kernel_rfl
abbrev g_spanAdd : List (Nat × Ctr O0) := [(n_spanAhead, c_spanAhead)]
def spanAdd_tm : List Tm := [[((3 : Nat), none, ((Sh.val (Ty.int IntKind.i64)).cons ((Sh.val (Ty.int IntKind.i64)).cons ((Sh.val (Ty.int IntKind.i64)).cons Sh.unit))).ptr),
    ((5 : Nat), none, Sh.own ((Ty.int IntKind.i64).pair ((Ty.int IntKind.i64).pair (Ty.int IntKind.i64)))),
    ((6 : Nat), none, Sh.val (Ty.int IntKind.i64)),
    ((13 : Nat), none, Sh.val ((Ty.int IntKind.i64).pair ((Ty.int IntKind.i64).pair (Ty.int IntKind.i64))).slice),
    ((14 : Nat), none, Sh.val (Ty.int IntKind.i64)), ((15 : Nat), none, Sh.val (Ty.int IntKind.i64))]]
def spanAdd_L1 (rec1 : (Int × Int × Int × Unit) × List (Int × Int × Int) × Int × List (Int × Int × Int) × Int × Int × Unit →
  Option
    ((List (Int × Int × Int) × Unit) ×
      Unit ×
        Unit ×
          Unit)) : (Int × Int × Int × Unit) × List (Int × Int × Int) × Int × List (Int × Int × Int) × Int × Int × Unit →
  Option ((List (Int × Int × Int) × Unit) × Unit × Unit × Unit) := fun (y3, y4, y5, y6, y7, y8, ()) =>
  br (decide (y8 < y7))
  (br (decide ((0 : Int) ≤ y8))
    (br (decide (y8 < (↑y6.length : Int)))
      (br
        (aheadS
          ((y6.getD y8.toNat ((0 : Int), (0 : Int), (0 : Int))).1, (y6.getD y8.toNat ((0 : Int), (0 : Int), (0 : Int))).2.1,
            (y6.getD y8.toNat ((0 : Int), (0 : Int), (0 : Int))).2.2)
          (y3.1, y3.2.1, y3.2.2.1))
        (br
          (decide
            ((y4.length +
                  [((y6.getD y8.toNat ((0 : Int), (0 : Int), (0 : Int))).1, (y6.getD y8.toNat ((0 : Int), (0 : Int), (0 : Int))).2.1,
                        (y6.getD y8.toNat ((0 : Int), (0 : Int), (0 : Int))).2.2)].length) *
                (24 : Nat) ≤
              LIM))
          (br
            (decide
              (y4.length +
                  [((y6.getD y8.toNat ((0 : Int), (0 : Int), (0 : Int))).1, (y6.getD y8.toNat ((0 : Int), (0 : Int), (0 : Int))).2.1,
                        (y6.getD y8.toNat ((0 : Int), (0 : Int), (0 : Int))).2.2)].length ≤
                LIM))
            (rec1
              ((y3.1, y3.2.1, y3.2.2.1, ()),
                cat y4
                  [((y6.getD y8.toNat ((0 : Int), (0 : Int), (0 : Int))).1, (y6.getD y8.toNat ((0 : Int), (0 : Int), (0 : Int))).2.1,
                      (y6.getD y8.toNat ((0 : Int), (0 : Int), (0 : Int))).2.2)],
                (↑(cat y4
                        [((y6.getD y8.toNat ((0 : Int), (0 : Int), (0 : Int))).1, (y6.getD y8.toNat ((0 : Int), (0 : Int), (0 : Int))).2.1,
                            (y6.getD y8.toNat ((0 : Int), (0 : Int), (0 : Int))).2.2)]).length :
                  Int),
                y6, y7, IntKind.i64.wrap (y8 + (1 : Int)), ()))
            none)
          none)
        (br
          (aheadS (y3.1, y3.2.1, y3.2.2.1)
            ((y6.getD y8.toNat ((0 : Int), (0 : Int), (0 : Int))).1, (y6.getD y8.toNat ((0 : Int), (0 : Int), (0 : Int))).2.1,
              (y6.getD y8.toNat ((0 : Int), (0 : Int), (0 : Int))).2.2))
          (br
            (decide
              ((y4.length +
                    [((y6.getD y8.toNat ((0 : Int), (0 : Int), (0 : Int))).1, (y6.getD y8.toNat ((0 : Int), (0 : Int), (0 : Int))).2.1,
                          (y6.getD y8.toNat ((0 : Int), (0 : Int), (0 : Int))).2.2)].length) *
                  (24 : Nat) ≤
                LIM))
            (br
              (decide
                (y4.length +
                    [((y6.getD y8.toNat ((0 : Int), (0 : Int), (0 : Int))).1, (y6.getD y8.toNat ((0 : Int), (0 : Int), (0 : Int))).2.1,
                          (y6.getD y8.toNat ((0 : Int), (0 : Int), (0 : Int))).2.2)].length ≤
                  LIM))
              (rec1
                ((y3.1, y3.2.1, y3.2.2.1, ()),
                  cat y4
                    [((y6.getD y8.toNat ((0 : Int), (0 : Int), (0 : Int))).1, (y6.getD y8.toNat ((0 : Int), (0 : Int), (0 : Int))).2.1,
                        (y6.getD y8.toNat ((0 : Int), (0 : Int), (0 : Int))).2.2)],
                  y5, y6, y7, IntKind.i64.wrap (y8 + (1 : Int)), ()))
              none)
            none)
          (rec1
            ((y3.1, minI y3.2.1 (y6.getD y8.toNat ((0 : Int), (0 : Int), (0 : Int))).2.1,
                maxI y3.2.2.1 (y6.getD y8.toNat ((0 : Int), (0 : Int), (0 : Int))).2.2, ()),
              y4, y5, y6, y7, IntKind.i64.wrap (y8 + (1 : Int)), ()))))
      none)
    none)
  (br (decide ((y4.length + [(y3.1, y3.2.1, y3.2.2.1)].length) * (24 : Nat) ≤ LIM))
    (br (decide (y4.length + [(y3.1, y3.2.1, y3.2.2.1)].length ≤ LIM))
      (br (decide ((0 : Int) ≤ IntKind.i64.wrap (y5 + (1 : Int))))
        (br (decide (IntKind.i64.wrap (y5 + (1 : Int)) ≤ (↑(cat y4 [(y3.1, y3.2.1, y3.2.2.1)]).length : Int)))
          (br (decide ((0 : Int) ≤ y5))
            (br (decide (y5 ≤ (↑(cat y4 [(y3.1, y3.2.1, y3.2.2.1)]).length : Int)))
              (br (decide ((0 : Int) ≤ y5))
                (br
                  (decide
                    (y5 <
                      (↑(splice (cat y4 [(y3.1, y3.2.1, y3.2.2.1)])
                              (List.take ((cat y4 [(y3.1, y3.2.1, y3.2.2.1)]).length - y5.toNat)
                                (List.drop y5.toNat (cat y4 [(y3.1, y3.2.1, y3.2.2.1)])))
                              (IntKind.i64.wrap (y5 + (1 : Int))).toNat
                              ((cat y4 [(y3.1, y3.2.1, y3.2.2.1)]).length - (IntKind.i64.wrap (y5 + (1 : Int))).toNat)).length :
                        Int)))
                  (some
                    (((splice (cat y4 [(y3.1, y3.2.1, y3.2.2.1)])
                              (List.take ((cat y4 [(y3.1, y3.2.1, y3.2.2.1)]).length - y5.toNat)
                                (List.drop y5.toNat (cat y4 [(y3.1, y3.2.1, y3.2.2.1)])))
                              (IntKind.i64.wrap (y5 + (1 : Int))).toNat
                              ((cat y4 [(y3.1, y3.2.1, y3.2.2.1)]).length - (IntKind.i64.wrap (y5 + (1 : Int))).toNat)).set
                          y5.toNat (y3.1, y3.2.1, y3.2.2.1),
                        ()),
                      (), (), ()))
                  none)
                none)
              none)
            none)
          none)
        none)
      none)
    none)
def spanAdd_P (K : Nat) (a0 : List (Int × Int × Int)) (a1 : Int × Int × Int) : Option ((List (Int × Int × Int) × Unit) × Unit × Unit × Unit) :=
  br (decide ((0 : Int) ≤ IntKind.i64.wrap ((↑a0.length : Int) + (1 : Int))))
  (br (decide ((IntKind.i64.wrap ((↑a0.length : Int) + (1 : Int))).toNat * (24 : Nat) ≤ LIM))
    (br (decide ((IntKind.i64.wrap ((↑a0.length : Int) + (1 : Int))).toNat ≤ LIM))
      (loopN spanAdd_L1 K
        ((a1.1, a1.2.1, a1.2.2, ()), List.replicate (Int.toNat (0 : Int)) ((0 : Int), (0 : Int), (0 : Int)), (0 : Int), a0,
          (↑a0.length : Int), (0 : Int), ()))
      none)
    none)
  none
theorem spanAdd_rn (K : Nat) (a0 : List
  (Int ×
    Int ×
      Int)) (a1 : Int ×
  Int ×
    Int) : runF (cfgW g_spanAdd) K f_spanAdd spanAdd_tm [.val (.slice tSpan), .val tSpan] [.own tSpan] (a0, a1, ()) = spanAdd_P K a0 a1 := by kernel_rfl
abbrev g_rspanAdd : List (Nat × Ctr O0) := []
def rspanAdd_tm : List Tm := [[((0 : Nat), none, Sh.val ((Ty.int IntKind.i64).pair ((Ty.int IntKind.i64).pair (Ty.int IntKind.i64))).slice),
    ((3 : Nat), none, ((Sh.val (Ty.int IntKind.i64)).cons ((Sh.val (Ty.int IntKind.i64)).cons ((Sh.val (Ty.int IntKind.i64)).cons Sh.unit))).ptr),
    ((5 : Nat), none, Sh.own ((Ty.int IntKind.i64).pair ((Ty.int IntKind.i64).pair (Ty.int IntKind.i64)))),
    ((6 : Nat), none, Sh.own ((Ty.int IntKind.i64).pair ((Ty.int IntKind.i64).pair (Ty.int IntKind.i64)))),
    ((7 : Nat), none, Sh.val (Ty.int IntKind.i64))]]
def rspanAdd_L1 (rec1 : List (Int × Int × Int) × (Int × Int × Int × Unit) × List (Int × Int × Int) × List (Int × Int × Int) × Int × Unit →
  Option
    ((List (Int × Int × Int) × Unit) ×
      Unit ×
        Unit ×
          Unit)) : List (Int × Int × Int) × (Int × Int × Int × Unit) × List (Int × Int × Int) × List (Int × Int × Int) × Int × Unit →
  Option ((List (Int × Int × Int) × Unit) × Unit × Unit × Unit) := fun (y3, y4, y5, y6, y7, ()) =>
  br (decide (y7 < (↑y3.length : Int)))
  (br (decide ((0 : Int) ≤ y7))
    (br (decide (y7 < (↑y3.length : Int)))
      (br (decide ((y3.getD y7.toNat ((0 : Int), (0 : Int), (0 : Int))).1 < y4.1))
        (br
          (decide
            ((y5.length +
                  [((y3.getD y7.toNat ((0 : Int), (0 : Int), (0 : Int))).1, (y3.getD y7.toNat ((0 : Int), (0 : Int), (0 : Int))).2.1,
                        (y3.getD y7.toNat ((0 : Int), (0 : Int), (0 : Int))).2.2)].length) *
                (24 : Nat) ≤
              LIM))
          (br
            (decide
              (y5.length +
                  [((y3.getD y7.toNat ((0 : Int), (0 : Int), (0 : Int))).1, (y3.getD y7.toNat ((0 : Int), (0 : Int), (0 : Int))).2.1,
                        (y3.getD y7.toNat ((0 : Int), (0 : Int), (0 : Int))).2.2)].length ≤
                LIM))
            (rec1
              (y3, (y4.1, y4.2.1, y4.2.2.1, ()),
                cat y5
                  [((y3.getD y7.toNat ((0 : Int), (0 : Int), (0 : Int))).1, (y3.getD y7.toNat ((0 : Int), (0 : Int), (0 : Int))).2.1,
                      (y3.getD y7.toNat ((0 : Int), (0 : Int), (0 : Int))).2.2)],
                y6, IntKind.i64.wrap (y7 + (1 : Int)), ()))
            none)
          none)
        (br ((y3.getD y7.toNat ((0 : Int), (0 : Int), (0 : Int))).1 == y4.1)
          (br (decide ((y3.getD y7.toNat ((0 : Int), (0 : Int), (0 : Int))).2.2 < y4.2.1))
            (br
              (decide
                ((y5.length +
                      [((y3.getD y7.toNat ((0 : Int), (0 : Int), (0 : Int))).1, (y3.getD y7.toNat ((0 : Int), (0 : Int), (0 : Int))).2.1,
                            (y3.getD y7.toNat ((0 : Int), (0 : Int), (0 : Int))).2.2)].length) *
                    (24 : Nat) ≤
                  LIM))
              (br
                (decide
                  (y5.length +
                      [((y3.getD y7.toNat ((0 : Int), (0 : Int), (0 : Int))).1, (y3.getD y7.toNat ((0 : Int), (0 : Int), (0 : Int))).2.1,
                            (y3.getD y7.toNat ((0 : Int), (0 : Int), (0 : Int))).2.2)].length ≤
                    LIM))
                (rec1
                  (y3, (y4.1, y4.2.1, y4.2.2.1, ()),
                    cat y5
                      [((y3.getD y7.toNat ((0 : Int), (0 : Int), (0 : Int))).1, (y3.getD y7.toNat ((0 : Int), (0 : Int), (0 : Int))).2.1,
                          (y3.getD y7.toNat ((0 : Int), (0 : Int), (0 : Int))).2.2)],
                    y6, IntKind.i64.wrap (y7 + (1 : Int)), ()))
                none)
              none)
            (br (decide ((y3.getD y7.toNat ((0 : Int), (0 : Int), (0 : Int))).1 > y4.1))
              (br
                (decide
                  ((y6.length +
                        [((y3.getD y7.toNat ((0 : Int), (0 : Int), (0 : Int))).1, (y3.getD y7.toNat ((0 : Int), (0 : Int), (0 : Int))).2.1,
                              (y3.getD y7.toNat ((0 : Int), (0 : Int), (0 : Int))).2.2)].length) *
                      (24 : Nat) ≤
                    LIM))
                (br
                  (decide
                    (y6.length +
                        [((y3.getD y7.toNat ((0 : Int), (0 : Int), (0 : Int))).1, (y3.getD y7.toNat ((0 : Int), (0 : Int), (0 : Int))).2.1,
                              (y3.getD y7.toNat ((0 : Int), (0 : Int), (0 : Int))).2.2)].length ≤
                      LIM))
                  (rec1
                    (y3, (y4.1, y4.2.1, y4.2.2.1, ()), y5,
                      cat y6
                        [((y3.getD y7.toNat ((0 : Int), (0 : Int), (0 : Int))).1, (y3.getD y7.toNat ((0 : Int), (0 : Int), (0 : Int))).2.1,
                            (y3.getD y7.toNat ((0 : Int), (0 : Int), (0 : Int))).2.2)],
                      IntKind.i64.wrap (y7 + (1 : Int)), ()))
                  none)
                none)
              (br (decide ((y3.getD y7.toNat ((0 : Int), (0 : Int), (0 : Int))).2.1 > y4.2.2.1))
                (br
                  (decide
                    ((y6.length +
                          [((y3.getD y7.toNat ((0 : Int), (0 : Int), (0 : Int))).1, (y3.getD y7.toNat ((0 : Int), (0 : Int), (0 : Int))).2.1,
                                (y3.getD y7.toNat ((0 : Int), (0 : Int), (0 : Int))).2.2)].length) *
                        (24 : Nat) ≤
                      LIM))
                  (br
                    (decide
                      (y6.length +
                          [((y3.getD y7.toNat ((0 : Int), (0 : Int), (0 : Int))).1, (y3.getD y7.toNat ((0 : Int), (0 : Int), (0 : Int))).2.1,
                                (y3.getD y7.toNat ((0 : Int), (0 : Int), (0 : Int))).2.2)].length ≤
                        LIM))
                    (rec1
                      (y3, (y4.1, y4.2.1, y4.2.2.1, ()), y5,
                        cat y6
                          [((y3.getD y7.toNat ((0 : Int), (0 : Int), (0 : Int))).1, (y3.getD y7.toNat ((0 : Int), (0 : Int), (0 : Int))).2.1,
                              (y3.getD y7.toNat ((0 : Int), (0 : Int), (0 : Int))).2.2)],
                        IntKind.i64.wrap (y7 + (1 : Int)), ()))
                    none)
                  none)
                (rec1
                  (y3,
                    (y4.1, minI y4.2.1 (y3.getD y7.toNat ((0 : Int), (0 : Int), (0 : Int))).2.1,
                      maxI y4.2.2.1 (y3.getD y7.toNat ((0 : Int), (0 : Int), (0 : Int))).2.2, ()),
                    y5, y6, IntKind.i64.wrap (y7 + (1 : Int)), ())))))
          (br (decide ((y3.getD y7.toNat ((0 : Int), (0 : Int), (0 : Int))).1 > y4.1))
            (br
              (decide
                ((y6.length +
                      [((y3.getD y7.toNat ((0 : Int), (0 : Int), (0 : Int))).1, (y3.getD y7.toNat ((0 : Int), (0 : Int), (0 : Int))).2.1,
                            (y3.getD y7.toNat ((0 : Int), (0 : Int), (0 : Int))).2.2)].length) *
                    (24 : Nat) ≤
                  LIM))
              (br
                (decide
                  (y6.length +
                      [((y3.getD y7.toNat ((0 : Int), (0 : Int), (0 : Int))).1, (y3.getD y7.toNat ((0 : Int), (0 : Int), (0 : Int))).2.1,
                            (y3.getD y7.toNat ((0 : Int), (0 : Int), (0 : Int))).2.2)].length ≤
                    LIM))
                (rec1
                  (y3, (y4.1, y4.2.1, y4.2.2.1, ()), y5,
                    cat y6
                      [((y3.getD y7.toNat ((0 : Int), (0 : Int), (0 : Int))).1, (y3.getD y7.toNat ((0 : Int), (0 : Int), (0 : Int))).2.1,
                          (y3.getD y7.toNat ((0 : Int), (0 : Int), (0 : Int))).2.2)],
                    IntKind.i64.wrap (y7 + (1 : Int)), ()))
                none)
              none)
            (br (decide ((y3.getD y7.toNat ((0 : Int), (0 : Int), (0 : Int))).2.1 > y4.2.2.1))
              (br
                (decide
                  ((y6.length +
                        [((y3.getD y7.toNat ((0 : Int), (0 : Int), (0 : Int))).1, (y3.getD y7.toNat ((0 : Int), (0 : Int), (0 : Int))).2.1,
                              (y3.getD y7.toNat ((0 : Int), (0 : Int), (0 : Int))).2.2)].length) *
                      (24 : Nat) ≤
                    LIM))
                (br
                  (decide
                    (y6.length +
                        [((y3.getD y7.toNat ((0 : Int), (0 : Int), (0 : Int))).1, (y3.getD y7.toNat ((0 : Int), (0 : Int), (0 : Int))).2.1,
                              (y3.getD y7.toNat ((0 : Int), (0 : Int), (0 : Int))).2.2)].length ≤
                      LIM))
                  (rec1
                    (y3, (y4.1, y4.2.1, y4.2.2.1, ()), y5,
                      cat y6
                        [((y3.getD y7.toNat ((0 : Int), (0 : Int), (0 : Int))).1, (y3.getD y7.toNat ((0 : Int), (0 : Int), (0 : Int))).2.1,
                            (y3.getD y7.toNat ((0 : Int), (0 : Int), (0 : Int))).2.2)],
                      IntKind.i64.wrap (y7 + (1 : Int)), ()))
                  none)
                none)
              (rec1
                (y3,
                  (y4.1, minI y4.2.1 (y3.getD y7.toNat ((0 : Int), (0 : Int), (0 : Int))).2.1,
                    maxI y4.2.2.1 (y3.getD y7.toNat ((0 : Int), (0 : Int), (0 : Int))).2.2, ()),
                  y5, y6, IntKind.i64.wrap (y7 + (1 : Int)), ()))))))
      none)
    none)
  (br (decide ((y5.length + [(y4.1, y4.2.1, y4.2.2.1)].length) * (24 : Nat) ≤ LIM))
    (br (decide (y5.length + [(y4.1, y4.2.1, y4.2.2.1)].length ≤ LIM))
      (br (decide (((cat y5 [(y4.1, y4.2.1, y4.2.2.1)]).length + y6.length) * (24 : Nat) ≤ LIM))
        (br (decide ((cat y5 [(y4.1, y4.2.1, y4.2.2.1)]).length + y6.length ≤ LIM))
          (some ((cat (cat y5 [(y4.1, y4.2.1, y4.2.2.1)]) y6, ()), (), (), ())) none)
        none)
      none)
    none)
def rspanAdd_P (K : Nat) (a0 : List (Int × Int × Int)) (a1 : Int × Int × Int) : Option ((List (Int × Int × Int) × Unit) × Unit × Unit × Unit) :=
  loopN rspanAdd_L1 K (a0, (a1.1, a1.2.1, a1.2.2, ()), [], [], (0 : Int), ())
theorem rspanAdd_rn (K : Nat) (a0 : List
  (Int ×
    Int ×
      Int)) (a1 : Int ×
  Int ×
    Int) : runF (cfgW g_rspanAdd) K f_rspanAdd rspanAdd_tm [.val (.slice tSpan), .val tSpan] [.own tSpan] (a0, a1, ()) = rspanAdd_P K a0 a1 := by kernel_rfl
abbrev g_rcovers : List (Nat × Ctr O0) := []
def rcovers_tm : List Tm := [[((0 : Nat), none, Sh.val ((Ty.int IntKind.i64).pair ((Ty.int IntKind.i64).pair (Ty.int IntKind.i64))).slice),
    ((3 : Nat), none, ((Sh.val (Ty.int IntKind.i64)).cons ((Sh.val (Ty.int IntKind.i64)).cons ((Sh.val (Ty.int IntKind.i64)).cons Sh.unit))).ptr),
    ((5 : Nat), none, Sh.val (Ty.int IntKind.i64))]]
def rcovers_L1 (rec1 : List (Int × Int × Int) × (Int × Int × Int × Unit) × Int × Unit →
  Option
    ((Bool × Unit) ×
      Unit ×
        Unit ×
          Unit)) : List (Int × Int × Int) × (Int × Int × Int × Unit) × Int × Unit →
  Option ((Bool × Unit) × Unit × Unit × Unit) := fun (y3, y4, y5, ()) =>
  br (decide (y5 < (↑y3.length : Int)))
  (br (decide ((0 : Int) ≤ y5))
    (br (decide (y5 < (↑y3.length : Int)))
      (br ((y3.getD y5.toNat ((0 : Int), (0 : Int), (0 : Int))).1 == y4.1)
        (br (decide ((0 : Int) ≤ y5))
          (br (decide (y5 < (↑y3.length : Int)))
            (br (decide ((y3.getD y5.toNat ((0 : Int), (0 : Int), (0 : Int))).2.1 ≤ y4.2.1))
              (br (decide ((0 : Int) ≤ y5))
                (br (decide (y5 < (↑y3.length : Int)))
                  (br (decide (y4.2.2.1 ≤ (y3.getD y5.toNat ((0 : Int), (0 : Int), (0 : Int))).2.2))
                    (some ((true, ()), (), (), ()))
                    (rec1 (y3, (y4.1, y4.2.1, y4.2.2.1, ()), IntKind.i64.wrap (y5 + (1 : Int)), ())))
                  none)
                none)
              (rec1 (y3, (y4.1, y4.2.1, y4.2.2.1, ()), IntKind.i64.wrap (y5 + (1 : Int)), ())))
            none)
          none)
        (rec1 (y3, (y4.1, y4.2.1, y4.2.2.1, ()), IntKind.i64.wrap (y5 + (1 : Int)), ())))
      none)
    none)
  (some ((false, ()), (), (), ()))
def rcovers_P (K : Nat) (a0 : List (Int × Int × Int)) (a1 : Int × Int × Int) : Option ((Bool × Unit) × Unit × Unit × Unit) :=
  loopN rcovers_L1 K (a0, (a1.1, a1.2.1, a1.2.2, ()), (0 : Int), ())
theorem rcovers_rn (K : Nat) (a0 : List
  (Int ×
    Int ×
      Int)) (a1 : Int ×
  Int ×
    Int) : runF (cfgW g_rcovers) K f_rcovers rcovers_tm [.val (.slice tSpan), .val tSpan] [.val .bool] (a0, a1, ()) = rcovers_P K a0 a1 := by kernel_rfl
abbrev g_spans : List (Nat × Ctr O0) := [(n_span, c_span), (n_rspanAdd, c_rspanAdd)]
def spans_tm : List Tm := [[((0 : Nat), none, Sh.val (Ty.int IntKind.i64).slice),
    ((3 : Nat), none, Sh.own ((Ty.int IntKind.i64).pair ((Ty.int IntKind.i64).pair (Ty.int IntKind.i64)))),
    ((4 : Nat), none, Sh.val (Ty.int IntKind.i64))]]
def spans_L1 (rec1 : List Int × List (Int × Int × Int) × Int × Unit →
  Option
    ((List (Int × Int × Int) × Unit) ×
      Unit ×
        Unit)) : List Int × List (Int × Int × Int) × Int × Unit →
  Option ((List (Int × Int × Int) × Unit) × Unit × Unit) := fun (y3, y4, y5, ()) =>
  br (decide (y5 < (↑y3.length : Int)))
  (br (decide (y5 < (20 : Int)))
    (br (decide ((0 : Int) ≤ y5))
      (br (decide (y5 < (↑y3.length : Int)))
        (bd
          (grd
            (lenOk y4 &&
              (canonS y4 &&
                spanR ((spanS (y3.getD y5.toNat (0 : Int))).1, (spanS (y3.getD y5.toNat (0 : Int))).2.1, (spanS (y3.getD y5.toNat (0 : Int))).2.2)))
            ((addGo y4 ((spanS (y3.getD y5.toNat (0 : Int))).1, (spanS (y3.getD y5.toNat (0 : Int))).2.1, (spanS (y3.getD y5.toNat (0 : Int))).2.2),
                ()),
              (), (), ()))
          fun (x6 : (List (Int × Int × Int) × Unit) × Unit × Unit × Unit) => rec1 (y3, x6.1.1, IntKind.i64.wrap (y5 + (1 : Int)), ()))
        none)
      none)
    (some ((y4, ()), (), ())))
  (some ((y4, ()), (), ()))
def spans_P (K : Nat) (a0 : List Int) : Option ((List (Int × Int × Int) × Unit) × Unit × Unit) :=
  loopN spans_L1 K (a0, [], (0 : Int), ())
theorem spans_rn (K : Nat) (a0 : List
  Int) : runF (cfgW g_spans) K f_spans spans_tm [.val (.slice tI)] [.own tSpan] (a0, ()) = spans_P K a0 := by kernel_rfl
end
end Go.BB
