/- A symbolic machine for the model's code, and what it shows of this seat's functions. No conditions. -/
import Derived.Test.YtnofmeckcimodaaBN
import Derived.Test.YtnofmeckcimodaaBGstore3
set_option linter.unusedSimpArgs false
set_option linter.unusedVariables false
namespace Go.BB
open Go Go.Proofs
set_option maxRecDepth 100000
set_option exponentiation.threshold 100000
noncomputable section
abbrev g_rstNew : List (Nat × Ctr O0) := []
def rstNew_tm : List Tm := []
def rstNew_P (K : Nat) (a0 : Int) (a1 : Int) : Option
  (((Int × Int × List ((Int × Int) × List (Int × Int)) × Unit) × Unit) × Unit × Unit × Unit) :=
  some (((a0, minI (maxI a1 (0 : Int)) (1048576 : Int), [], ()), ()), (), (), ())
theorem rstNew_rn (K : Nat) (a0 : Int) (a1 : Int) : runF (cfgW g_rstNew) K f_rstNew rstNew_tm [.val tU, .val tI] [.box shRef] (a0, a1, ()) = rstNew_P K a0 a1 := by kernel_rfl
abbrev g_place : List (Nat × Ctr O0) := [(n_rless, c_rless)]
def place_tm : List Tm := [[((0 : Nat), none,
      Sh.rop
        ((Ty.int IntKind.u64).pair
          ((Ty.int IntKind.i64).pair
            ((((Ty.int IntKind.i64).pair (Ty.int IntKind.i64)).pair ((Ty.int IntKind.u64).pair (Ty.int IntKind.u16)).slice).slice.pair Ty.unit)))),
    ((3 : Nat), none, ((Sh.val (Ty.int IntKind.i64)).cons ((Sh.val (Ty.int IntKind.i64)).cons Sh.unit)).ptr),
    ((6 : Nat), none, Sh.val (Ty.int IntKind.i64)), ((7 : Nat), none, Sh.val (Ty.int IntKind.i64))]]
def place_L1 (rec1 : (Int × Int × List ((Int × Int) × List (Int × Int)) × Unit) × (Int × Int × Unit) × Int × Int × Unit →
  Option
    ((Int × Bool × Unit) ×
      Unit ×
        Unit ×
          Unit)) : (Int × Int × List ((Int × Int) × List (Int × Int)) × Unit) × (Int × Int × Unit) × Int × Int × Unit →
  Option ((Int × Bool × Unit) × Unit × Unit × Unit) := fun (y3, y4, y5, y6, ()) =>
  br (decide (y5 < y6))
  (br (!false)
    (br (decide ((0 : Int) ≤ IntKind.i64.wrap ((IntKind.i64.wrap (y5 + y6)).tdiv (2 : Int))))
      (br (decide (IntKind.i64.wrap ((IntKind.i64.wrap (y5 + y6)).tdiv (2 : Int)) < (↑y3.2.2.1.length : Int)))
        (br
          (keyLt
            ((y3.2.2.1.getD (IntKind.i64.wrap ((IntKind.i64.wrap (y5 + y6)).tdiv (2 : Int))).toNat (((0 : Int), (0 : Int)), [])).1.1,
              (y3.2.2.1.getD (IntKind.i64.wrap ((IntKind.i64.wrap (y5 + y6)).tdiv (2 : Int))).toNat (((0 : Int), (0 : Int)), [])).1.2)
            (y4.1, y4.2.1))
          (rec1
            (y3, (y4.1, y4.2.1, ()), IntKind.i64.wrap (IntKind.i64.wrap ((IntKind.i64.wrap (y5 + y6)).tdiv (2 : Int)) + (1 : Int)), y6,
              ()))
          (rec1 (y3, (y4.1, y4.2.1, ()), y5, IntKind.i64.wrap ((IntKind.i64.wrap (y5 + y6)).tdiv (2 : Int)), ())))
        none)
      none)
    none)
  (br (decide (y5 < (↑y3.2.2.1.length : Int)))
    (br (decide ((0 : Int) ≤ y5))
      (br (decide (y5 < (↑y3.2.2.1.length : Int)))
        (some
          ((y5,
              (y3.2.2.1.getD y5.toNat (((0 : Int), (0 : Int)), [])).1.1 == y4.1 &&
                (y3.2.2.1.getD y5.toNat (((0 : Int), (0 : Int)), [])).1.2 == y4.2.1,
              ()),
            (), (), ()))
        none)
      none)
    (some ((y5, false, ()), (), (), ())))
def place_P (K : Nat) (a0 : Int ×
  Int × List ((Int × Int) × List (Int × Int)) × Unit) (a1 : Int × Int) : Option ((Int × Bool × Unit) × Unit × Unit × Unit) :=
  loopN place_L1 K (a0, (a1.1, a1.2, ()), (0 : Int), (↑a0.2.2.1.length : Int), ())
theorem place_rn (K : Nat) (a0 : Int ×
  Int ×
    List ((Int × Int) × List (Int × Int)) ×
      Unit) (a1 : Int ×
  Int) : runF (cfgW g_place) K f_place place_tm [.rop tRef, .val tKey] [.val tI, .val .bool] (a0, a1, ()) = place_P K a0 a1 := by kernel_rfl
abbrev g_rstRead : List (Nat × Ctr O0) := [(n_place, c_place), (n_rchainAt, c_rchainAt)]
def rstRead_tm : List Tm := []
def rstRead_P (K : Nat) (a0 : Int ×
  Int × List ((Int × Int) × List (Int × Int)) × Unit) (a1 : Int × Int) (a2 : Int) : Option ((Int × Unit) × Unit × Unit × Unit × Unit) :=
  bd
  (grd (lenOk a0.2.2.1 && srtR a0.2.2.1)
    (((↑(cntR a0.2.2.1 (a1.1, a1.2)) : Int), hasR a0.2.2.1 (a1.1, a1.2), ()), (), (), ()))
  fun (x1 : (Int × Bool × Unit) × Unit × Unit × Unit) =>
  br (!x1.1.2.1) (some (((0 : Int), ()), (), (), (), ()))
    (br (decide ((0 : Int) ≤ x1.1.1))
      (br (decide (x1.1.1 < (↑a0.2.2.1.length : Int)))
        (bd
          (grd (lenOk (a0.2.2.1.getD x1.1.1.toNat (((0 : Int), (0 : Int)), [])).2)
            ((atV (a0.2.2.1.getD x1.1.1.toNat (((0 : Int), (0 : Int)), [])).2 a2, ()), (), (), ()))
          fun (x2 : (Int × Unit) × Unit × Unit × Unit) => some ((x2.1.1, ()), (), (), (), ()))
        none)
      none)
theorem rstRead_rn (K : Nat) (a0 : Int ×
  Int ×
    List ((Int × Int) × List (Int × Int)) ×
      Unit) (a1 : Int ×
  Int) (a2 : Int) : runF (cfgW g_rstRead) K f_rstRead rstRead_tm [.rop tRef, .val tKey, .val tU] [.val tW] (a0, a1, a2, ()) = rstRead_P K a0 a1 a2 := by kernel_rfl
abbrev g_rstNewest : List (Nat × Ctr O0) := [(n_place, c_place), (n_rnewest, c_rnewest)]
def rstNewest_tm : List Tm := []
def rstNewest_P (K : Nat) (a0 : Int ×
  Int × List ((Int × Int) × List (Int × Int)) × Unit) (a1 : Int × Int) : Option ((Int × Unit) × Unit × Unit × Unit) :=
  bd
  (grd (lenOk a0.2.2.1 && srtR a0.2.2.1)
    (((↑(cntR a0.2.2.1 (a1.1, a1.2)) : Int), hasR a0.2.2.1 (a1.1, a1.2), ()), (), (), ()))
  fun (x1 : (Int × Bool × Unit) × Unit × Unit × Unit) =>
  br (!x1.1.2.1) (some (((0 : Int), ()), (), (), ()))
    (br (decide ((0 : Int) ≤ x1.1.1))
      (br (decide (x1.1.1 < (↑a0.2.2.1.length : Int)))
        (bd
          (grd (lenOk (a0.2.2.1.getD x1.1.1.toNat (((0 : Int), (0 : Int)), [])).2)
            ((newS (a0.2.2.1.getD x1.1.1.toNat (((0 : Int), (0 : Int)), [])).2, ()), (), ()))
          fun (x2 : (Int × Unit) × Unit × Unit) => some ((x2.1.1, ()), (), (), ()))
        none)
      none)
theorem rstNewest_rn (K : Nat) (a0 : Int ×
  Int ×
    List ((Int × Int) × List (Int × Int)) ×
      Unit) (a1 : Int ×
  Int) : runF (cfgW g_rstNewest) K f_rstNewest rstNewest_tm [.rop tRef, .val tKey] [.val tU] (a0, a1, ()) = rstNewest_P K a0 a1 := by kernel_rfl
abbrev g_rstVersions : List (Nat × Ctr O0) := []
def rstVersions_tm : List Tm := [[((0 : Nat), none,
      Sh.rop
        ((Ty.int IntKind.u64).pair
          ((Ty.int IntKind.i64).pair
            ((((Ty.int IntKind.i64).pair (Ty.int IntKind.i64)).pair ((Ty.int IntKind.u64).pair (Ty.int IntKind.u16)).slice).slice.pair Ty.unit)))),
    ((3 : Nat), none, Sh.val (Ty.int IntKind.i64)), ((4 : Nat), none, Sh.val (Ty.int IntKind.i64))]]
def rstVersions_L1 (rec1 : (Int × Int × List ((Int × Int) × List (Int × Int)) × Unit) × Int × Int × Unit →
  Option
    ((Int × Unit) ×
      Unit ×
        Unit)) : (Int × Int × List ((Int × Int) × List (Int × Int)) × Unit) × Int × Int × Unit →
  Option ((Int × Unit) × Unit × Unit) := fun (y3, y4, y5, ()) =>
  br (decide (y5 < (↑y3.2.2.1.length : Int)))
  (br (decide ((0 : Int) ≤ y5))
    (br (decide (y5 < (↑y3.2.2.1.length : Int)))
      (rec1
        (y3, IntKind.i64.wrap (y4 + (↑(List.length (y3.2.2.1.getD y5.toNat (((0 : Int), (0 : Int)), [])).2) : Int)),
          IntKind.i64.wrap (y5 + (1 : Int)), ()))
      none)
    none)
  (some ((y4, ()), (), ()))
def rstVersions_P (K : Nat) (a0 : Int × Int × List ((Int × Int) × List (Int × Int)) × Unit) : Option ((Int × Unit) × Unit × Unit) :=
  loopN rstVersions_L1 K (a0, (0 : Int), (0 : Int), ())
theorem rstVersions_rn (K : Nat) (a0 : Int ×
  Int ×
    List ((Int × Int) × List (Int × Int)) ×
      Unit) : runF (cfgW g_rstVersions) K f_rstVersions rstVersions_tm [.rop tRef] [.val tI] (a0, ()) = rstVersions_P K a0 := by kernel_rfl
abbrev g_rcelR : List (Nat × Ctr O0) := []
def rcelR_tm : List Tm := []
def rcelR_P (K : Nat) (a0 : (Int × Int) × Int) : Option ((Bool × Unit) × Unit × Unit) :=
  br (decide (a0.1.1 ≥ (0 : Int)))
  (br (decide (a0.1.1 ≤ (3 : Int)))
    (br (decide (a0.1.2 ≥ (0 : Int)))
      (br (decide (a0.1.2 < (65536 : Int)))
        (br (decide (a0.1.1 ≥ (2 : Int))) (some ((true, ()), (), ()))
          (some ((decide (a0.2 ≤ (1 : Int)), ()), (), ())))
        (some ((false, ()), (), ())))
      (some ((false, ()), (), ())))
    (some ((false, ()), (), ())))
  (some ((false, ()), (), ()))
theorem rcelR_rn (K : Nat) (a0 : (Int × Int) ×
  Int) : runF (cfgW g_rcelR) K f_rcelR rcelR_tm [.val tCell] [.val .bool] (a0, ()) = rcelR_P K a0 := by kernel_rfl
abbrev g_sorted : List (Nat × Ctr O0) := [(n_rcelR, c_rcelR), (n_rbget, c_rbget), (n_rput, c_rput)]
def sorted_tm : List Tm := [[((0 : Nat), none, Sh.val (((Ty.int IntKind.i64).pair (Ty.int IntKind.i64)).pair (Ty.int IntKind.u16)).slice),
    ((4 : Nat), none, Sh.own (((Ty.int IntKind.i64).pair (Ty.int IntKind.i64)).pair (Ty.int IntKind.u16))),
    ((5 : Nat), none, Sh.val (Ty.int IntKind.i64))]]
def sorted_L1 (rec1 : List ((Int × Int) × Int) × List ((Int × Int) × Int) × Int × Unit →
  Option
    ((List ((Int × Int) × Int) × Bool × Unit) ×
      Unit ×
        Unit)) : List ((Int × Int) × Int) × List ((Int × Int) × Int) × Int × Unit →
  Option ((List ((Int × Int) × Int) × Bool × Unit) × Unit × Unit) := fun (y3, y4, y5, ()) =>
  br (decide (y5 < (↑y3.length : Int)))
  (br (decide ((0 : Int) ≤ y5))
    (br (decide (y5 < (↑y3.length : Int)))
      (br
        (!celR
            (((y3.getD y5.toNat (((0 : Int), (0 : Int)), (0 : Int))).1.1, (y3.getD y5.toNat (((0 : Int), (0 : Int)), (0 : Int))).1.2),
              (y3.getD y5.toNat (((0 : Int), (0 : Int)), (0 : Int))).2))
        (some (([], false, ()), (), ()))
        (br (decide ((0 : Int) ≤ y5))
          (br (decide (y5 < (↑y3.length : Int)))
            (bd
              (grd (lenOk y4 && bufS y4)
                (((getK y4
                        ((y3.getD y5.toNat (((0 : Int), (0 : Int)), (0 : Int))).1.1, (y3.getD y5.toNat (((0 : Int), (0 : Int)), (0 : Int))).1.2)).1,
                    (getK y4
                        ((y3.getD y5.toNat (((0 : Int), (0 : Int)), (0 : Int))).1.1, (y3.getD y5.toNat (((0 : Int), (0 : Int)), (0 : Int))).1.2)).2,
                    ()),
                  (), (), ()))
              fun (x6 : (Int × Bool × Unit) × Unit × Unit × Unit) =>
              br x6.1.2.1 (some (([], false, ()), (), ()))
                (br (decide ((0 : Int) ≤ y5))
                  (br (decide (y5 < (↑y3.length : Int)))
                    (bd
                      (grd (lenOk y4 && bufS y4)
                        ((putK y4
                              (((y3.getD y5.toNat (((0 : Int), (0 : Int)), (0 : Int))).1.1,
                                  (y3.getD y5.toNat (((0 : Int), (0 : Int)), (0 : Int))).1.2),
                                (y3.getD y5.toNat (((0 : Int), (0 : Int)), (0 : Int))).2),
                            ()),
                          (), (), ()))
                      fun (x7 : (List ((Int × Int) × Int) × Unit) × Unit × Unit × Unit) =>
                      rec1 (y3, x7.1.1, IntKind.i64.wrap (y5 + (1 : Int)), ()))
                    none)
                  none))
            none)
          none))
      none)
    none)
  (some ((y4, true, ()), (), ()))
def sorted_P (K : Nat) (a0 : List ((Int × Int) × Int)) : Option ((List ((Int × Int) × Int) × Bool × Unit) × Unit × Unit) :=
  loopN sorted_L1 K (a0, [], (0 : Int), ())
theorem sorted_rn (K : Nat) (a0 : List
  ((Int × Int) ×
    Int)) : runF (cfgW g_sorted) K f_sorted sorted_tm [.val (.slice tCell)] [.own tCell, .val .bool] (a0, ()) = sorted_P K a0 := by kernel_rfl
abbrev g_rstInstall : List (Nat × Ctr O0) := [(n_sorted, c_sorted), (n_rstVersions, c_rstVersions), (n_place, c_place), (n_rchainAdd, c_rchainAdd)]
def rstInstall_tm : List Tm := [[((0 : Nat), some (0 : Nat),
      ((Sh.val (Ty.int IntKind.u64)).cons
          ((Sh.val (Ty.int IntKind.i64)).cons
            ((Sh.own (((Ty.int IntKind.i64).pair (Ty.int IntKind.i64)).pair ((Ty.int IntKind.u64).pair (Ty.int IntKind.u16)).slice)).cons
              Sh.unit))).ptr),
    ((1 : Nat), none, Sh.val (((Ty.int IntKind.i64).pair (Ty.int IntKind.i64)).pair (Ty.int IntKind.u16)).slice),
    ((8 : Nat), none, Sh.val (Ty.int IntKind.i64))]]
def rstInstall_L1 (rec3 : (Int × Int × List ((Int × Int) × List (Int × Int)) × Unit) × List ((Int × Int) × Int) × Int × Unit →
  Option
    ((Int × Int × Unit) ×
      (Int × Int × List ((Int × Int) × List (Int × Int)) × Unit) ×
        Unit ×
          Unit)) : (Int × Int × List ((Int × Int) × List (Int × Int)) × Unit) × List ((Int × Int) × Int) × Int × Unit →
  Option ((Int × Int × Unit) × (Int × Int × List ((Int × Int) × List (Int × Int)) × Unit) × Unit × Unit) := fun (y5, y6, y7, ()) =>
  br (decide (y7 < (↑y6.length : Int)))
  (br (decide ((0 : Int) ≤ y7))
    (br (decide (y7 < (↑y6.length : Int)))
      (br (decide ((0 : Int) ≤ y7))
        (br (decide (y7 < (↑y6.length : Int)))
          (bd
            (grd (lenOk y5.2.2.1 && srtR y5.2.2.1)
              (((↑(cntR y5.2.2.1
                        ((y6.getD y7.toNat (((0 : Int), (0 : Int)), (0 : Int))).1.1, (y6.getD y7.toNat (((0 : Int), (0 : Int)), (0 : Int))).1.2)) :
                    Int),
                  hasR y5.2.2.1
                    ((y6.getD y7.toNat (((0 : Int), (0 : Int)), (0 : Int))).1.1, (y6.getD y7.toNat (((0 : Int), (0 : Int)), (0 : Int))).1.2),
                  ()),
                (), (), ()))
            fun (x8 : (Int × Bool × Unit) × Unit × Unit × Unit) =>
            br x8.1.2.1
              (br (decide ((0 : Int) ≤ x8.1.1))
                (br (decide (x8.1.1 < (↑y5.2.2.1.length : Int)))
                  (bd
                    (grd (lenOk (y5.2.2.1.getD x8.1.1.toNat (((0 : Int), (0 : Int)), [])).2)
                      (((addS (y5.2.2.1.getD x8.1.1.toNat (((0 : Int), (0 : Int)), [])).2
                              (y5.1, (y6.getD y7.toNat (((0 : Int), (0 : Int)), (0 : Int))).2)).1,
                          (addS (y5.2.2.1.getD x8.1.1.toNat (((0 : Int), (0 : Int)), [])).2
                              (y5.1, (y6.getD y7.toNat (((0 : Int), (0 : Int)), (0 : Int))).2)).2,
                          ()),
                        (), (), ()))
                    fun (x9 : (List (Int × Int) × Int × Unit) × Unit × Unit × Unit) =>
                    br (decide ((0 : Int) ≤ x8.1.1))
                      (br (decide (x8.1.1 < (↑y5.2.2.1.length : Int)))
                        (rec3
                          ((y5.1, y5.2.1, y5.2.2.1.set x8.1.1.toNat ((y5.2.2.1.getD x8.1.1.toNat (((0 : Int), (0 : Int)), [])).1, x9.1.1),
                              ()),
                            y6, IntKind.i64.wrap (y7 + (1 : Int)), ()))
                        none)
                      none)
                  none)
                none)
              (br (decide ((0 : Int) ≤ x8.1.1))
                (br (decide (x8.1.1 ≤ (↑y5.2.2.1.length : Int)))
                  (br (decide ((List.take x8.1.1.toNat (List.drop (0 : Nat) y5.2.2.1)).length * (40 : Nat) ≤ LIM))
                    (br (decide ((List.take x8.1.1.toNat (List.drop (0 : Nat) y5.2.2.1)).length ≤ LIM))
                      (br (decide ((0 : Int) ≤ y7))
                        (br (decide (y7 < (↑y6.length : Int)))
                          (br
                            (decide
                              (((List.take x8.1.1.toNat (List.drop (0 : Nat) y5.2.2.1)).length +
                                    [(((y6.getD y7.toNat (((0 : Int), (0 : Int)), (0 : Int))).1.1,
                                            (y6.getD y7.toNat (((0 : Int), (0 : Int)), (0 : Int))).1.2),
                                          [(y5.1, (y6.getD y7.toNat (((0 : Int), (0 : Int)), (0 : Int))).2)])].length) *
                                  (40 : Nat) ≤
                                LIM))
                            (br
                              (decide
                                ((List.take x8.1.1.toNat (List.drop (0 : Nat) y5.2.2.1)).length +
                                    [(((y6.getD y7.toNat (((0 : Int), (0 : Int)), (0 : Int))).1.1,
                                            (y6.getD y7.toNat (((0 : Int), (0 : Int)), (0 : Int))).1.2),
                                          [(y5.1, (y6.getD y7.toNat (((0 : Int), (0 : Int)), (0 : Int))).2)])].length ≤
                                  LIM))
                              (br (decide ((0 : Int) ≤ x8.1.1))
                                (br (decide (x8.1.1 ≤ (↑y5.2.2.1.length : Int)))
                                  (br
                                    (decide
                                      (((cat (List.take x8.1.1.toNat (List.drop (0 : Nat) y5.2.2.1))
                                                [(((y6.getD y7.toNat (((0 : Int), (0 : Int)), (0 : Int))).1.1,
                                                      (y6.getD y7.toNat (((0 : Int), (0 : Int)), (0 : Int))).1.2),
                                                    [(y5.1, (y6.getD y7.toNat (((0 : Int), (0 : Int)), (0 : Int))).2)])]).length +
                                            (List.take (y5.2.2.1.length - x8.1.1.toNat) (List.drop x8.1.1.toNat y5.2.2.1)).length) *
                                          (40 : Nat) ≤
                                        LIM))
                                    (br
                                      (decide
                                        ((cat (List.take x8.1.1.toNat (List.drop (0 : Nat) y5.2.2.1))
                                                [(((y6.getD y7.toNat (((0 : Int), (0 : Int)), (0 : Int))).1.1,
                                                      (y6.getD y7.toNat (((0 : Int), (0 : Int)), (0 : Int))).1.2),
                                                    [(y5.1, (y6.getD y7.toNat (((0 : Int), (0 : Int)), (0 : Int))).2)])]).length +
                                            (List.take (y5.2.2.1.length - x8.1.1.toNat) (List.drop x8.1.1.toNat y5.2.2.1)).length ≤
                                          LIM))
                                      (rec3
                                        ((y5.1, y5.2.1,
                                            cat
                                              (cat (List.take x8.1.1.toNat (List.drop (0 : Nat) y5.2.2.1))
                                                [(((y6.getD y7.toNat (((0 : Int), (0 : Int)), (0 : Int))).1.1,
                                                      (y6.getD y7.toNat (((0 : Int), (0 : Int)), (0 : Int))).1.2),
                                                    [(y5.1, (y6.getD y7.toNat (((0 : Int), (0 : Int)), (0 : Int))).2)])])
                                              (List.take (y5.2.2.1.length - x8.1.1.toNat) (List.drop x8.1.1.toNat y5.2.2.1)),
                                            ()),
                                          y6, IntKind.i64.wrap (y7 + (1 : Int)), ()))
                                      none)
                                    none)
                                  none)
                                none)
                              none)
                            none)
                          none)
                        none)
                      none)
                    none)
                  none)
                none))
          none)
        none)
      none)
    none)
  (some ((y5.1, (0 : Int), ()), (y5.1, y5.2.1, y5.2.2.1, ()), (), ()))
def rstInstall_P (K : Nat) (a0 : Int ×
  Int ×
    List ((Int × Int) × List (Int × Int)) ×
      Unit) (a1 : List
  ((Int × Int) × Int)) : Option ((Int × Int × Unit) × (Int × Int × List ((Int × Int) × List (Int × Int)) × Unit) × Unit × Unit) :=
  bd (grd (lenOk a1) (((sortedS a1).1, (sortedS a1).2, ()), (), ()))
  fun (x1 : (List ((Int × Int) × Int) × Bool × Unit) × Unit × Unit) =>
  br (!x1.1.2.1) (some (((0 : Int), (1 : Int), ()), (a0.1, a0.2.1, a0.2.2.1, ()), (), ()))
    (br ((↑a1.length : Int) == (0 : Int)) (some (((0 : Int), (1 : Int), ()), (a0.1, a0.2.1, a0.2.2.1, ()), (), ()))
      (br (a0.1 == (18446744073709551615 : Int))
        (some (((0 : Int), (8 : Int), ()), (a0.1, a0.2.1, a0.2.2.1, ()), (), ()))
        (bd (grd (lenOk a0.2.2.1 && decide (chsLen a0.2.2.1 ≤ (1048576 : Nat))) (((↑(chsLen a0.2.2.1) : Int), ()), (), ()))
          fun (x2 : (Int × Unit) × Unit × Unit) =>
          br (decide (IntKind.i64.wrap (x2.1.1 + (↑a1.length : Int)) > a0.2.1))
            (some (((0 : Int), (4 : Int), ()), (a0.1, a0.2.1, a0.2.2.1, ()), (), ()))
            (loopN rstInstall_L1 K ((IntKind.u64.wrap (a0.1 + (1 : Int)), a0.2.1, a0.2.2.1, ()), a1, (0 : Int), ())))))
theorem rstInstall_rn (K : Nat) (a0 : Int ×
  Int ×
    List ((Int × Int) × List (Int × Int)) ×
      Unit) (a1 : List
  ((Int × Int) ×
    Int)) : runF (cfgW g_rstInstall) K f_rstInstall rstInstall_tm [.box shRef, .val (.slice tCell)] [.val tU, .val tI] (a0, a1, ()) = rstInstall_P K a0 a1 := by kernel_rfl
end
end Go.BB
