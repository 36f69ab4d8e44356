/- A symbolic machine for the model's code, and what it shows of this seat's functions. No conditions. -/
import Derived.Test.YteaomngbkklfoaaRN
import Derived.Test.YteaomngbkklfoaaRSView
set_option linter.unusedSimpArgs false
set_option linter.unusedVariables false
namespace Go.BB
open Go Go.Proofs
set_option maxRecDepth 100000
set_option exponentiation.threshold 100000
noncomputable section
abbrev g_viewOwn : List (Nat × Ctr O0) := [(n_cloneSpans, c_cloneSpans), (n_cloneCells, c_cloneCells)]
def viewOwn_tm : List Tm := []
def viewOwn_P (K : Nat) (a0 : Int ×
  List (Int × Int × Int) × List ((Int × Int) × Int)) : Option (((Int × List (Int × Int × Int) × List ((Int × Int) × Int)) × Unit) × Unit × Unit) :=
  bd (grd (decide (a0.2.1.length < (1000000 : Nat))) ((a0.2.1, ()), (), ()))
  fun (x1 : (List (Int × Int × Int) × Unit) × Unit × Unit) =>
  bd (grd (decide (a0.2.2.length < (1000000 : Nat))) ((a0.2.2, ()), (), ()))
    fun (x2 : (List ((Int × Int) × Int) × Unit) × Unit × Unit) => some (((a0.1, x1.1.1, x2.1.1), ()), (), ())
theorem viewOwn_rn (K : Nat) (a0 : Int ×
  List (Int × Int × Int) ×
    List ((Int × Int) × Int)) : runF (cfgW g_viewOwn) K f_viewOwn viewOwn_tm [.val tView] [.val tView] (a0, ()) = viewOwn_P K a0 := by kernel_rfl
abbrev g_look : List (Nat × Ctr O0) := [(n_bget, c_bget), (n_stRead, c_stRead)]
def look_tm : List Tm := [[((0 : Nat), some (0 : Nat),
      ((Sh.val (Ty.int IntKind.u64)).cons
          ((Sh.val (Ty.int IntKind.i64)).cons
            ((Sh.val (Ty.int IntKind.i64)).cons
              ((Sh.map (MapK.mapS ((Ty.int IntKind.i64).pair (Ty.int IntKind.i64)) ((Ty.int IntKind.u64).pair (Ty.int IntKind.u16)))).cons
                Sh.unit)))).ptr),
    ((4 : Nat), none,
      ((Sh.val (Ty.int IntKind.u64)).cons
          ((Sh.val ((Ty.int IntKind.i64).pair ((Ty.int IntKind.i64).pair (Ty.int IntKind.i64))).slice).cons
            ((Sh.val (((Ty.int IntKind.i64).pair (Ty.int IntKind.i64)).pair (Ty.int IntKind.u16)).slice).cons Sh.unit))).ptr),
    ((5 : Nat), none, ((Sh.val (Ty.int IntKind.i64)).cons ((Sh.val (Ty.int IntKind.i64)).cons ((Sh.val (Ty.int IntKind.i64)).cons Sh.unit))).ptr),
    ((7 : Nat), none, Sh.own (Ty.int IntKind.u16)), ((8 : Nat), none, Sh.val (Ty.int IntKind.i64))]]
def look_L1 (rec1 : (Int × Int × Int × List ((Int × Int) × List (Int × Int)) × Unit) ×
    (Int × List (Int × Int × Int) × List ((Int × Int) × Int) × Unit) × (Int × Int × Int × Unit) × List Int × Int × Unit →
  Option
    ((List Int × Unit) ×
      (Int × Int × Int × List ((Int × Int) × List (Int × Int)) × Unit) ×
        Unit ×
          Unit ×
            Unit)) : (Int × Int × Int × List ((Int × Int) × List (Int × Int)) × Unit) ×
    (Int × List (Int × Int × Int) × List ((Int × Int) × Int) × Unit) × (Int × Int × Int × Unit) × List Int × Int × Unit →
  Option
    ((List Int × Unit) ×
      (Int × Int × Int × List ((Int × Int) × List (Int × Int)) × Unit) × Unit × Unit × Unit) := fun (y3, y4, y5, y6, y7, ()) =>
  br (decide (y7 < y5.2.2.1))
  (bd
    (grd (lenOk y4.2.2.1 && bufS y4.2.2.1)
      (((getK y4.2.2.1 (y5.1, y7)).1, (getK y4.2.2.1 (y5.1, y7)).2, ()), (), (), ()))
    fun (x8 : (Int × Bool × Unit) × Unit × Unit × Unit) =>
    br (!x8.1.2.1)
      (bd
        (grd (stoOk (y3.1, y3.2.1, y3.2.2.1, y3.2.2.2.1, ()))
          ((atV (chnOf y3.2.2.2.1 (y5.1, y7)) y4.1, ()), (y3.1, y3.2.1, y3.2.2.1, y3.2.2.2.1, ()), (), (),
            ()))
        fun (x9 : (Int × Unit) × (Int × Int × Int × List ((Int × Int) × List (Int × Int)) × Unit) × Unit × Unit × Unit) =>
        br (decide ((y6.length + [x9.1.1].length) * (2 : Nat) ≤ LIM))
          (br (decide (y6.length + [x9.1.1].length ≤ LIM))
            (rec1
              ((x9.2.1.1, x9.2.1.2.1, x9.2.1.2.2.1, x9.2.1.2.2.2.1, ()), (y4.1, y4.2.1, y4.2.2.1, ()),
                (y5.1, y5.2.1, y5.2.2.1, ()), cat y6 [x9.1.1], IntKind.i64.wrap (y7 + (1 : Int)), ()))
            none)
          none)
      (br (decide ((y6.length + [x8.1.1].length) * (2 : Nat) ≤ LIM))
        (br (decide (y6.length + [x8.1.1].length ≤ LIM))
          (rec1
            ((y3.1, y3.2.1, y3.2.2.1, y3.2.2.2.1, ()), (y4.1, y4.2.1, y4.2.2.1, ()), (y5.1, y5.2.1, y5.2.2.1, ()),
              cat y6 [x8.1.1], IntKind.i64.wrap (y7 + (1 : Int)), ()))
          none)
        none))
  (some ((y6, ()), (y3.1, y3.2.1, y3.2.2.1, y3.2.2.2.1, ()), (), (), ()))
def look_P (K : Nat) (a0 : Int ×
  Int ×
    Int ×
      List ((Int × Int) × List (Int × Int)) ×
        Unit) (a1 : Int ×
  List (Int × Int × Int) ×
    List
      ((Int × Int) ×
        Int)) (a2 : Int ×
  Int × Int) : Option ((List Int × Unit) × (Int × Int × Int × List ((Int × Int) × List (Int × Int)) × Unit) × Unit × Unit × Unit) :=
  loopN look_L1 K
  ((a0.1, a0.2.1, a0.2.2.1, a0.2.2.2.1, ()), (a1.1, a1.2.1, a1.2.2, ()), (a2.1, a2.2.1, a2.2.2, ()), [], a2.2.1, ())
theorem look_rn (K : Nat) (a0 : Int ×
  Int ×
    Int ×
      List ((Int × Int) × List (Int × Int)) ×
        Unit) (a1 : Int ×
  List (Int × Int × Int) ×
    List
      ((Int × Int) ×
        Int)) (a2 : Int ×
  Int ×
    Int) : runF (cfgW g_look) K f_look look_tm [.box shStore, .val tView, .val tSpan] [.own tW] (a0, a1, a2, ()) = look_P K a0 a1 a2 := by kernel_rfl
abbrev g_viewRead : List (Nat × Ctr O0) := [(n_viewOwn, c_viewOwn), (n_rest, c_rest), (n_spanAdd, c_spanAdd), (n_look, c_look)]
def viewRead_tm : List Tm := [[((0 : Nat), some (0 : Nat),
      ((Sh.val (Ty.int IntKind.u64)).cons
          ((Sh.val (Ty.int IntKind.i64)).cons
            ((Sh.val (Ty.int IntKind.i64)).cons
              ((Sh.map (MapK.mapS ((Ty.int IntKind.i64).pair (Ty.int IntKind.i64)) ((Ty.int IntKind.u64).pair (Ty.int IntKind.u16)))).cons
                Sh.unit)))).ptr),
    ((3 : Nat), none, Sh.val (Ty.int IntKind.i64)),
    ((5 : Nat), none,
      ((Sh.val (Ty.int IntKind.u64)).cons
          ((Sh.val ((Ty.int IntKind.i64).pair ((Ty.int IntKind.i64).pair (Ty.int IntKind.i64))).slice).cons
            ((Sh.val (((Ty.int IntKind.i64).pair (Ty.int IntKind.i64)).pair (Ty.int IntKind.u16)).slice).cons Sh.unit))).ptr),
    ((6 : Nat), none, ((Sh.val (Ty.int IntKind.i64)).cons ((Sh.val (Ty.int IntKind.i64)).cons ((Sh.val (Ty.int IntKind.i64)).cons Sh.unit))).ptr),
    ((8 : Nat), none, ((Sh.val (Ty.int IntKind.u64)).cons (Sh.nil.cons (Sh.nil.cons Sh.unit))).ptr),
    ((11 : Nat), none,
      ((Sh.val (Ty.int IntKind.u64)).cons
          ((Sh.val ((Ty.int IntKind.i64).pair ((Ty.int IntKind.i64).pair (Ty.int IntKind.i64))).slice).cons
            ((Sh.val (((Ty.int IntKind.i64).pair (Ty.int IntKind.i64)).pair (Ty.int IntKind.u16)).slice).cons Sh.unit))).ptr),
    ((19 : Nat), none, Sh.own ((Ty.int IntKind.i64).pair ((Ty.int IntKind.i64).pair (Ty.int IntKind.i64)))),
    ((20 : Nat), none, Sh.val (Ty.int IntKind.i64)), ((21 : Nat), none, Sh.val (Ty.int IntKind.i64))]]
def viewRead_L1 (rec3 : (Int × Int × Int × List ((Int × Int) × List (Int × Int)) × Unit) ×
    Int ×
      (Int × List (Int × Int × Int) × List ((Int × Int) × Int) × Unit) ×
        (Int × Int × Int × Unit) ×
          (Int × Unit × Unit × Unit) ×
            (Int × List (Int × Int × Int) × List ((Int × Int) × Int) × Unit) × List (Int × Int × Int) × Int × Int × Unit →
  Option
    (((Int × List (Int × Int × Int) × List ((Int × Int) × Int)) × List Int × Int × Unit) ×
      (Int × Int × Int × List ((Int × Int) × List (Int × Int)) × Unit) ×
        Unit ×
          Unit ×
            Unit ×
              Unit)) : (Int × Int × Int × List ((Int × Int) × List (Int × Int)) × Unit) ×
    Int ×
      (Int × List (Int × Int × Int) × List ((Int × Int) × Int) × Unit) ×
        (Int × Int × Int × Unit) ×
          (Int × Unit × Unit × Unit) ×
            (Int × List (Int × Int × Int) × List ((Int × Int) × Int) × Unit) × List (Int × Int × Int) × Int × Int × Unit →
  Option
    (((Int × List (Int × Int × Int) × List ((Int × Int) × Int)) × List Int × Int × Unit) ×
      (Int × Int × Int × List ((Int × Int) × List (Int × Int)) × Unit) ×
        Unit × Unit × Unit × Unit) := fun (y5, y6, y7, y8, y9, y10, y11, y12, y13, ()) =>
  br (decide (y13 < y12))
  (br (decide ((0 : Int) ≤ y13))
    (br (decide (y13 < (↑y11.length : Int)))
      (bd
        (grd
          (lenOk y10.2.1 &&
            (canonS y10.2.1 &&
              spanR
                ((y11.getD y13.toNat ((0 : Int), (0 : Int), (0 : Int))).1, (y11.getD y13.toNat ((0 : Int), (0 : Int), (0 : Int))).2.1,
                  (y11.getD y13.toNat ((0 : Int), (0 : Int), (0 : Int))).2.2)))
          ((addGo y10.2.1
                ((y11.getD y13.toNat ((0 : Int), (0 : Int), (0 : Int))).1, (y11.getD y13.toNat ((0 : Int), (0 : Int), (0 : Int))).2.1,
                  (y11.getD y13.toNat ((0 : Int), (0 : Int), (0 : Int))).2.2),
              ()),
            (), (), ()))
        fun (x14 : (List (Int × Int × Int) × Unit) × Unit × Unit × Unit) =>
        rec3
          ((y5.1, y5.2.1, y5.2.2.1, y5.2.2.2.1, ()), y6, (y7.1, y7.2.1, y7.2.2.1, ()), (y8.1, y8.2.1, y8.2.2.1, ()),
            (y9.1, (), (), ()), (y10.1, x14.1.1, y10.2.2.1, ()), y11, y12, IntKind.i64.wrap (y13 + (1 : Int)),
            ()))
      none)
    none)
  (br (decide ((↑y10.2.1.length : Int) > y6))
    (bd (grd (lenOk y7.2.1 && lenOk y7.2.2.1) (((y7.1, y7.2.1, y7.2.2.1), ()), (), ()))
      fun (x15 : ((Int × List (Int × Int × Int) × List ((Int × Int) × Int)) × Unit) × Unit × Unit) =>
      some
        (((x15.1.1.1, x15.1.1.2.1, x15.1.1.2.2), [], (4 : Int), ()), (y5.1, y5.2.1, y5.2.2.1, y5.2.2.2.1, ()), (), (),
          (), ()))
    (bd
      (grd (stoOk (y5.1, y5.2.1, y5.2.2.1, y5.2.2.2.1, ()) && (viewOk (y7.1, y7.2.1, y7.2.2.1) && spanR (y8.1, y8.2.1, y8.2.2.1)))
        ((lookP y5.2.2.2.1 (y7.1, y7.2.1, y7.2.2.1) (y8.1, y8.2.1, y8.2.2.1), ()), (y5.1, y5.2.1, y5.2.2.1, y5.2.2.2.1, ()),
          (), (), ()))
      fun (x16 : (List Int × Unit) × (Int × Int × Int × List ((Int × Int) × List (Int × Int)) × Unit) × Unit × Unit × Unit) =>
      some
        (((y10.1, y10.2.1, y10.2.2.1), x16.1.1, (0 : Int), ()), (x16.2.1.1, x16.2.1.2.1, x16.2.1.2.2.1, x16.2.1.2.2.2.1, ()),
          (), (), (), ())))
def viewRead_P (K : Nat) (a0 : Int ×
  Int ×
    Int ×
      List ((Int × Int) × List (Int × Int)) ×
        Unit) (a1 : Int ×
  List (Int × Int × Int) ×
    List
      ((Int × Int) ×
        Int)) (a2 : Int ×
  Int ×
    Int) (a3 : Int) : Option
  (((Int × List (Int × Int × Int) × List ((Int × Int) × Int)) × List Int × Int × Unit) ×
    (Int × Int × Int × List ((Int × Int) × List (Int × Int)) × Unit) × Unit × Unit × Unit × Unit) :=
  bd (grd (lenOk a1.2.1 && lenOk a1.2.2) (((a1.1, a1.2.1, a1.2.2), ()), (), ()))
  fun (x1 : ((Int × List (Int × Int × Int) × List ((Int × Int) × Int)) × Unit) × Unit × Unit) =>
  bd
    (grd (lenOk a1.2.2 && (bufS a1.2.2 && spanR (a2.1, a2.2.1, a2.2.2)))
      ((restS a1.2.2 (a2.1, a2.2.1, a2.2.2), ()), (), (), ()))
    fun (x2 : (List (Int × Int × Int) × Unit) × Unit × Unit × Unit) =>
    loopN viewRead_L1 K
      ((a0.1, a0.2.1, a0.2.2.1, a0.2.2.2.1, ()), a3, (a1.1, a1.2.1, a1.2.2, ()), (a2.1, a2.2.1, a2.2.2, ()),
        ((0 : Int), (), (), ()), (x1.1.1.1, x1.1.1.2.1, x1.1.1.2.2, ()), x2.1.1, (↑x2.1.1.length : Int), (0 : Int),
        ())
theorem viewRead_rn (K : Nat) (a0 : Int ×
  Int ×
    Int ×
      List ((Int × Int) × List (Int × Int)) ×
        Unit) (a1 : Int ×
  List (Int × Int × Int) ×
    List
      ((Int × Int) ×
        Int)) (a2 : Int ×
  Int ×
    Int) (a3 : Int) : runF (cfgW g_viewRead) K f_viewRead viewRead_tm [.box shStore, .val tView, .val tSpan, .val tI] [.val tView, .own tW, .val tI] (a0, a1, a2, a3, ()) = viewRead_P K a0 a1 a2 a3 := by kernel_rfl
abbrev g_viewWrite : List (Nat × Ctr O0) := [(n_viewOwn, c_viewOwn), (n_put, c_put)]
def viewWrite_tm : List Tm := [[((2 : Nat), none, Sh.val (Ty.int IntKind.i64)),
    ((3 : Nat), none,
      ((Sh.val (Ty.int IntKind.u64)).cons
          ((Sh.val ((Ty.int IntKind.i64).pair ((Ty.int IntKind.i64).pair (Ty.int IntKind.i64))).slice).cons
            ((Sh.val (((Ty.int IntKind.i64).pair (Ty.int IntKind.i64)).pair (Ty.int IntKind.u16)).slice).cons Sh.unit))).ptr),
    ((6 : Nat), none, ((Sh.val (Ty.int IntKind.u64)).cons (Sh.nil.cons (Sh.nil.cons Sh.unit))).ptr),
    ((8 : Nat), none,
      ((Sh.val (Ty.int IntKind.u64)).cons
          ((Sh.val ((Ty.int IntKind.i64).pair ((Ty.int IntKind.i64).pair (Ty.int IntKind.i64))).slice).cons
            ((Sh.val (((Ty.int IntKind.i64).pair (Ty.int IntKind.i64)).pair (Ty.int IntKind.u16)).slice).cons Sh.unit))).ptr),
    ((13 : Nat), some (1 : Nat), Sh.sub (((Ty.int IntKind.i64).pair (Ty.int IntKind.i64)).pair (Ty.int IntKind.u16))),
    ((14 : Nat), none, Sh.val (Ty.int IntKind.i64)), ((15 : Nat), none, Sh.val (Ty.int IntKind.i64))]]
def viewWrite_L1 (rec2 : Int ×
    (Int × List (Int × Int × Int) × List ((Int × Int) × Int) × Unit) ×
      (Int × Unit × Unit × Unit) ×
        (Int × List (Int × Int × Int) × List ((Int × Int) × Int) × Unit) × (List ((Int × Int) × Int) × Nat) × Int × Int × Unit →
  Option
    (((Int × List (Int × Int × Int) × List ((Int × Int) × Int)) × Int × Unit) ×
      Unit ×
        List ((Int × Int) × Int) ×
          Unit ×
            Unit)) : Int ×
    (Int × List (Int × Int × Int) × List ((Int × Int) × Int) × Unit) ×
      (Int × Unit × Unit × Unit) ×
        (Int × List (Int × Int × Int) × List ((Int × Int) × Int) × Unit) × (List ((Int × Int) × Int) × Nat) × Int × Int × Unit →
  Option
    (((Int × List (Int × Int × Int) × List ((Int × Int) × Int)) × Int × Unit) ×
      Unit × List ((Int × Int) × Int) × Unit × Unit) := fun (y4, y5, y6, y7, y8, y9, y10, ()) =>
  br (decide (y10 < y9))
  (br (decide ((0 : Int) ≤ y10))
    (br (decide (y10 < (↑y8.2 : Int)))
      (bd
        (grd (lenOk y7.2.2.1 && bufS y7.2.2.1)
          ((putK y7.2.2.1
                (((y8.1.getD y10.toNat (((0 : Int), (0 : Int)), (0 : Int))).1.1, (y8.1.getD y10.toNat (((0 : Int), (0 : Int)), (0 : Int))).1.2),
                  (y8.1.getD y10.toNat (((0 : Int), (0 : Int)), (0 : Int))).2),
              ()),
            (), (), ()))
        fun (x11 : (List ((Int × Int) × Int) × Unit) × Unit × Unit × Unit) =>
        rec2
          (y4, (y5.1, y5.2.1, y5.2.2.1, ()), (y6.1, (), (), ()), (y7.1, y7.2.1, x11.1.1, ()), (y8.1, y8.2),
            y9, IntKind.i64.wrap (y10 + (1 : Int)), ()))
      none)
    none)
  (br (decide ((↑y7.2.2.1.length : Int) > y4))
    (bd (grd (lenOk y5.2.1 && lenOk y5.2.2.1) (((y5.1, y5.2.1, y5.2.2.1), ()), (), ()))
      fun (x12 : ((Int × List (Int × Int × Int) × List ((Int × Int) × Int)) × Unit) × Unit × Unit) =>
      some (((x12.1.1.1, x12.1.1.2.1, x12.1.1.2.2), (4 : Int), ()), (), y8.1, (), ()))
    (some (((y7.1, y7.2.1, y7.2.2.1), (0 : Int), ()), (), y8.1, (), ())))
def viewWrite_P (K : Nat) (a0 : Int ×
  List (Int × Int × Int) ×
    List
      ((Int × Int) ×
        Int)) (a1 : List ((Int × Int) × Int) ×
  Nat) (a2 : Int) : Option
  (((Int × List (Int × Int × Int) × List ((Int × Int) × Int)) × Int × Unit) × Unit × List ((Int × Int) × Int) × Unit × Unit) :=
  bd (grd (lenOk a0.2.1 && lenOk a0.2.2) (((a0.1, a0.2.1, a0.2.2), ()), (), ()))
  fun (x1 : ((Int × List (Int × Int × Int) × List ((Int × Int) × Int)) × Unit) × Unit × Unit) =>
  loopN viewWrite_L1 K
    (a2, (a0.1, a0.2.1, a0.2.2, ()), ((0 : Int), (), (), ()), (x1.1.1.1, x1.1.1.2.1, x1.1.1.2.2, ()),
      (a1.1, a1.2), (↑a1.2 : Int), (0 : Int), ())
theorem viewWrite_rn (K : Nat) (a0 : Int ×
  List (Int × Int × Int) ×
    List
      ((Int × Int) ×
        Int)) (a1 : List ((Int × Int) × Int) ×
  Nat) (a2 : Int) : runF (cfgW g_viewWrite) K f_viewWrite viewWrite_tm [.val tView, .row tCell, .val tI] [.val tView, .val tI] (a0, a1, a2, ()) = viewWrite_P K a0 a1 a2 := by kernel_rfl
abbrev g_rlook : List (Nat × Ctr O0) := [(n_rbget, c_rbget), (n_rstRead, c_rstRead)]
def rlook_tm : List Tm := [[((0 : Nat), none,
      Sh.rop
        ((Ty.int IntKind.u64).pair
          ((Ty.int IntKind.i64).pair
            ((((Ty.int IntKind.i64).pair (Ty.int IntKind.i64)).pair ((Ty.int IntKind.u64).pair (Ty.int IntKind.u16)).slice).slice.pair Ty.unit)))),
    ((4 : Nat), none,
      ((Sh.val (Ty.int IntKind.u64)).cons
          ((Sh.val ((Ty.int IntKind.i64).pair ((Ty.int IntKind.i64).pair (Ty.int IntKind.i64))).slice).cons
            ((Sh.val (((Ty.int IntKind.i64).pair (Ty.int IntKind.i64)).pair (Ty.int IntKind.u16)).slice).cons Sh.unit))).ptr),
    ((5 : Nat), none, ((Sh.val (Ty.int IntKind.i64)).cons ((Sh.val (Ty.int IntKind.i64)).cons ((Sh.val (Ty.int IntKind.i64)).cons Sh.unit))).ptr),
    ((7 : Nat), none, Sh.own (Ty.int IntKind.u16)), ((8 : Nat), none, Sh.val (Ty.int IntKind.i64))]]
def rlook_L1 (rec1 : (Int × Int × List ((Int × Int) × List (Int × Int)) × Unit) ×
    (Int × List (Int × Int × Int) × List ((Int × Int) × Int) × Unit) × (Int × Int × Int × Unit) × List Int × Int × Unit →
  Option
    ((List Int × Unit) ×
      Unit ×
        Unit ×
          Unit ×
            Unit)) : (Int × Int × List ((Int × Int) × List (Int × Int)) × Unit) ×
    (Int × List (Int × Int × Int) × List ((Int × Int) × Int) × Unit) × (Int × Int × Int × Unit) × List Int × Int × Unit →
  Option ((List Int × Unit) × Unit × Unit × Unit × Unit) := fun (y3, y4, y5, y6, y7, ()) =>
  br (decide (y7 < y5.2.2.1))
  (bd
    (grd (lenOk y4.2.2.1 && bufS y4.2.2.1)
      (((getK y4.2.2.1 (y5.1, y7)).1, (getK y4.2.2.1 (y5.1, y7)).2, ()), (), (), ()))
    fun (x8 : (Int × Bool × Unit) × Unit × Unit × Unit) =>
    br (!x8.1.2.1)
      (bd (grd (refOk y3) ((atV (rowOf y3.2.2.1 (y5.1, y7)) y4.1, ()), (), (), (), ()))
        fun (x9 : (Int × Unit) × Unit × Unit × Unit × Unit) =>
        br (decide ((y6.length + [x9.1.1].length) * (2 : Nat) ≤ LIM))
          (br (decide (y6.length + [x9.1.1].length ≤ LIM))
            (rec1
              (y3, (y4.1, y4.2.1, y4.2.2.1, ()), (y5.1, y5.2.1, y5.2.2.1, ()), cat y6 [x9.1.1], IntKind.i64.wrap (y7 + (1 : Int)),
                ()))
            none)
          none)
      (br (decide ((y6.length + [x8.1.1].length) * (2 : Nat) ≤ LIM))
        (br (decide (y6.length + [x8.1.1].length ≤ LIM))
          (rec1
            (y3, (y4.1, y4.2.1, y4.2.2.1, ()), (y5.1, y5.2.1, y5.2.2.1, ()), cat y6 [x8.1.1], IntKind.i64.wrap (y7 + (1 : Int)),
              ()))
          none)
        none))
  (some ((y6, ()), (), (), (), ()))
def rlook_P (K : Nat) (a0 : Int ×
  Int ×
    List ((Int × Int) × List (Int × Int)) ×
      Unit) (a1 : Int ×
  List (Int × Int × Int) × List ((Int × Int) × Int)) (a2 : Int × Int × Int) : Option ((List Int × Unit) × Unit × Unit × Unit × Unit) :=
  loopN rlook_L1 K (a0, (a1.1, a1.2.1, a1.2.2, ()), (a2.1, a2.2.1, a2.2.2, ()), [], a2.2.1, ())
theorem rlook_rn (K : Nat) (a0 : Int ×
  Int ×
    List ((Int × Int) × List (Int × Int)) ×
      Unit) (a1 : Int ×
  List (Int × Int × Int) ×
    List
      ((Int × Int) ×
        Int)) (a2 : Int ×
  Int ×
    Int) : runF (cfgW g_rlook) K f_rlook rlook_tm [.rop tRef, .val tView, .val tSpan] [.own tW] (a0, a1, a2, ()) = rlook_P K a0 a1 a2 := by kernel_rfl
abbrev g_rviewRead : List (Nat × Ctr O0) := [(n_rrest, c_rrest), (n_rspanAdd, c_rspanAdd), (n_rlook, c_rlook)]
def rviewRead_tm : List Tm := [[((0 : Nat), some (0 : Nat),
      ((Sh.val (Ty.int IntKind.u64)).cons
          ((Sh.val (Ty.int IntKind.i64)).cons
            ((Sh.own (((Ty.int IntKind.i64).pair (Ty.int IntKind.i64)).pair ((Ty.int IntKind.u64).pair (Ty.int IntKind.u16)).slice)).cons
              Sh.unit))).ptr),
    ((3 : Nat), none, Sh.val (Ty.int IntKind.i64)),
    ((5 : Nat), none,
      ((Sh.val (Ty.int IntKind.u64)).cons
          ((Sh.val ((Ty.int IntKind.i64).pair ((Ty.int IntKind.i64).pair (Ty.int IntKind.i64))).slice).cons
            ((Sh.val (((Ty.int IntKind.i64).pair (Ty.int IntKind.i64)).pair (Ty.int IntKind.u16)).slice).cons Sh.unit))).ptr),
    ((6 : Nat), none, ((Sh.val (Ty.int IntKind.i64)).cons ((Sh.val (Ty.int IntKind.i64)).cons ((Sh.val (Ty.int IntKind.i64)).cons Sh.unit))).ptr),
    ((8 : Nat), none, ((Sh.val (Ty.int IntKind.u64)).cons (Sh.nil.cons (Sh.nil.cons Sh.unit))).ptr),
    ((11 : Nat), none, Sh.val ((Ty.int IntKind.i64).pair ((Ty.int IntKind.i64).pair (Ty.int IntKind.i64))).slice),
    ((12 : Nat), none, Sh.own ((Ty.int IntKind.i64).pair ((Ty.int IntKind.i64).pair (Ty.int IntKind.i64)))),
    ((13 : Nat), none, Sh.val (Ty.int IntKind.i64))]]
def rviewRead_L1 (rec2 : (Int × Int × List ((Int × Int) × List (Int × Int)) × Unit) ×
    Int ×
      (Int × List (Int × Int × Int) × List ((Int × Int) × Int) × Unit) ×
        (Int × Int × Int × Unit) × (Int × Unit × Unit × Unit) × List (Int × Int × Int) × List (Int × Int × Int) × Int × Unit →
  Option
    (((Int × List (Int × Int × Int) × List ((Int × Int) × Int)) × List Int × Int × Unit) ×
      (Int × Int × List ((Int × Int) × List (Int × Int)) × Unit) ×
        Unit ×
          Unit ×
            Unit ×
              Unit)) : (Int × Int × List ((Int × Int) × List (Int × Int)) × Unit) ×
    Int ×
      (Int × List (Int × Int × Int) × List ((Int × Int) × Int) × Unit) ×
        (Int × Int × Int × Unit) × (Int × Unit × Unit × Unit) × List (Int × Int × Int) × List (Int × Int × Int) × Int × Unit →
  Option
    (((Int × List (Int × Int × Int) × List ((Int × Int) × Int)) × List Int × Int × Unit) ×
      (Int × Int × List ((Int × Int) × List (Int × Int)) × Unit) × Unit × Unit × Unit × Unit) := fun (y4, y5, y6, y7, y8, y9, y10, y11, ()) =>
  br (decide (y11 < (↑y10.length : Int)))
  (br (decide ((0 : Int) ≤ y11))
    (br (decide (y11 < (↑y10.length : Int)))
      (bd
        (grd
          (lenOk y9 &&
            (canonS y9 &&
              spanR
                ((y10.getD y11.toNat ((0 : Int), (0 : Int), (0 : Int))).1, (y10.getD y11.toNat ((0 : Int), (0 : Int), (0 : Int))).2.1,
                  (y10.getD y11.toNat ((0 : Int), (0 : Int), (0 : Int))).2.2)))
          ((addGo y9
                ((y10.getD y11.toNat ((0 : Int), (0 : Int), (0 : Int))).1, (y10.getD y11.toNat ((0 : Int), (0 : Int), (0 : Int))).2.1,
                  (y10.getD y11.toNat ((0 : Int), (0 : Int), (0 : Int))).2.2),
              ()),
            (), (), ()))
        fun (x12 : (List (Int × Int × Int) × Unit) × Unit × Unit × Unit) =>
        rec2
          ((y4.1, y4.2.1, y4.2.2.1, ()), y5, (y6.1, y6.2.1, y6.2.2.1, ()), (y7.1, y7.2.1, y7.2.2.1, ()),
            (y8.1, (), (), ()), x12.1.1, y10, IntKind.i64.wrap (y11 + (1 : Int)), ()))
      none)
    none)
  (br (decide ((↑y9.length : Int) > y5))
    (some
      (((y6.1, y6.2.1, y6.2.2.1), [], (4 : Int), ()), (y4.1, y4.2.1, y4.2.2.1, ()), (), (), (), ()))
    (bd
      (grd (refOk (y4.1, y4.2.1, y4.2.2.1, ()) && (viewOk (y6.1, y6.2.1, y6.2.2.1) && spanR (y7.1, y7.2.1, y7.2.2.1)))
        ((lookD y4.2.2.1 (y6.1, y6.2.1, y6.2.2.1) (y7.1, y7.2.1, y7.2.2.1), ()), (), (), (), ()))
      fun (x13 : (List Int × Unit) × Unit × Unit × Unit × Unit) =>
      some
        (((y6.1, y9, y6.2.2.1), x13.1.1, (0 : Int), ()), (y4.1, y4.2.1, y4.2.2.1, ()), (), (), (),
          ())))
def rviewRead_P (K : Nat) (a0 : Int ×
  Int ×
    List ((Int × Int) × List (Int × Int)) ×
      Unit) (a1 : Int ×
  List (Int × Int × Int) ×
    List
      ((Int × Int) ×
        Int)) (a2 : Int ×
  Int ×
    Int) (a3 : Int) : Option
  (((Int × List (Int × Int × Int) × List ((Int × Int) × Int)) × List Int × Int × Unit) ×
    (Int × Int × List ((Int × Int) × List (Int × Int)) × Unit) × Unit × Unit × Unit × Unit) :=
  bd
  (grd (lenOk a1.2.2 && (bufS a1.2.2 && spanR (a2.1, a2.2.1, a2.2.2)))
    ((restS a1.2.2 (a2.1, a2.2.1, a2.2.2), ()), (), (), ()))
  fun (x1 : (List (Int × Int × Int) × Unit) × Unit × Unit × Unit) =>
  loopN rviewRead_L1 K
    ((a0.1, a0.2.1, a0.2.2.1, ()), a3, (a1.1, a1.2.1, a1.2.2, ()), (a2.1, a2.2.1, a2.2.2, ()),
      ((0 : Int), (), (), ()), a1.2.1, x1.1.1, (0 : Int), ())
theorem rviewRead_rn (K : Nat) (a0 : Int ×
  Int ×
    List ((Int × Int) × List (Int × Int)) ×
      Unit) (a1 : Int ×
  List (Int × Int × Int) ×
    List
      ((Int × Int) ×
        Int)) (a2 : Int ×
  Int ×
    Int) (a3 : Int) : runF (cfgW g_rviewRead) K f_rviewRead rviewRead_tm [.box shRef, .val tView, .val tSpan, .val tI] [.val tView, .own tW, .val tI] (a0, a1, a2, a3, ()) = rviewRead_P K a0 a1 a2 a3 := by kernel_rfl
abbrev g_rviewWrite : List (Nat × Ctr O0) := [(n_rput, c_rput)]
def rviewWrite_tm : List Tm := [[((1 : Nat), none, Sh.val (((Ty.int IntKind.i64).pair (Ty.int IntKind.i64)).pair (Ty.int IntKind.u16)).slice),
    ((2 : Nat), none, Sh.val (Ty.int IntKind.i64)),
    ((3 : Nat), none,
      ((Sh.val (Ty.int IntKind.u64)).cons
          ((Sh.val ((Ty.int IntKind.i64).pair ((Ty.int IntKind.i64).pair (Ty.int IntKind.i64))).slice).cons
            ((Sh.val (((Ty.int IntKind.i64).pair (Ty.int IntKind.i64)).pair (Ty.int IntKind.u16)).slice).cons Sh.unit))).ptr),
    ((6 : Nat), none, ((Sh.val (Ty.int IntKind.u64)).cons (Sh.nil.cons (Sh.nil.cons Sh.unit))).ptr),
    ((8 : Nat), none, Sh.val (((Ty.int IntKind.i64).pair (Ty.int IntKind.i64)).pair (Ty.int IntKind.u16)).slice),
    ((9 : Nat), none, Sh.val (Ty.int IntKind.i64))]]
def rviewWrite_L1 (rec1 : List ((Int × Int) × Int) ×
    Int × (Int × List (Int × Int × Int) × List ((Int × Int) × Int) × Unit) × (Int × Unit × Unit × Unit) × List ((Int × Int) × Int) × Int × Unit →
  Option
    (((Int × List (Int × Int × Int) × List ((Int × Int) × Int)) × Int × Unit) ×
      Unit ×
        Unit ×
          Unit ×
            Unit)) : List ((Int × Int) × Int) ×
    Int × (Int × List (Int × Int × Int) × List ((Int × Int) × Int) × Unit) × (Int × Unit × Unit × Unit) × List ((Int × Int) × Int) × Int × Unit →
  Option
    (((Int × List (Int × Int × Int) × List ((Int × Int) × Int)) × Int × Unit) × Unit × Unit × Unit × Unit) := fun (y3, y4, y5, y6, y7, y8, ()) =>
  br (decide (y8 < (↑y3.length : Int)))
  (br (decide ((0 : Int) ≤ y8))
    (br (decide (y8 < (↑y3.length : Int)))
      (bd
        (grd (lenOk y7 && bufS y7)
          ((putK y7
                (((y3.getD y8.toNat (((0 : Int), (0 : Int)), (0 : Int))).1.1, (y3.getD y8.toNat (((0 : Int), (0 : Int)), (0 : Int))).1.2),
                  (y3.getD y8.toNat (((0 : Int), (0 : Int)), (0 : Int))).2),
              ()),
            (), (), ()))
        fun (x9 : (List ((Int × Int) × Int) × Unit) × Unit × Unit × Unit) =>
        rec1
          (y3, y4, (y5.1, y5.2.1, y5.2.2.1, ()), (y6.1, (), (), ()), x9.1.1, IntKind.i64.wrap (y8 + (1 : Int)),
            ()))
      none)
    none)
  (br (decide ((↑y7.length : Int) > y4)) (some (((y5.1, y5.2.1, y5.2.2.1), (4 : Int), ()), (), (), (), ()))
    (some (((y5.1, y5.2.1, y7), (0 : Int), ()), (), (), (), ())))
def rviewWrite_P (K : Nat) (a0 : Int ×
  List (Int × Int × Int) ×
    List
      ((Int × Int) ×
        Int)) (a1 : List
  ((Int × Int) ×
    Int)) (a2 : Int) : Option (((Int × List (Int × Int × Int) × List ((Int × Int) × Int)) × Int × Unit) × Unit × Unit × Unit × Unit) :=
  loopN rviewWrite_L1 K (a1, a2, (a0.1, a0.2.1, a0.2.2, ()), ((0 : Int), (), (), ()), a0.2.2, (0 : Int), ())
theorem rviewWrite_rn (K : Nat) (a0 : Int ×
  List (Int × Int × Int) ×
    List
      ((Int × Int) ×
        Int)) (a1 : List
  ((Int × Int) ×
    Int)) (a2 : Int) : runF (cfgW g_rviewWrite) K f_rviewWrite rviewWrite_tm [.val tView, .val (.slice tCell), .val tI] [.val tView, .val tI] (a0, a1, a2, ()) = rviewWrite_P K a0 a1 a2 := by kernel_rfl
abbrev g_clash : List (Nat × Ctr O0) := [(n_stNewest, c_stNewest)]
def clash_tm : List Tm := [[((0 : Nat), some (0 : Nat),
      ((Sh.val (Ty.int IntKind.u64)).cons
          ((Sh.val (Ty.int IntKind.i64)).cons
            ((Sh.val (Ty.int IntKind.i64)).cons
              ((Sh.map (MapK.mapS ((Ty.int IntKind.i64).pair (Ty.int IntKind.i64)) ((Ty.int IntKind.u64).pair (Ty.int IntKind.u16)))).cons
                Sh.unit)))).ptr),
    ((2 : Nat), none, Sh.val (Ty.int IntKind.u64)),
    ((6 : Nat), none, ((Sh.val (Ty.int IntKind.i64)).cons ((Sh.val (Ty.int IntKind.i64)).cons Sh.unit)).ptr),
    ((8 : Nat), none, ((Sh.val (Ty.int IntKind.i64)).cons ((Sh.val (Ty.int IntKind.i64)).cons Sh.unit)).ptr), ((9 : Nat), none, Sh.val Ty.bool),
    ((14 : Nat), none, Sh.val ((Ty.int IntKind.i64).pair ((Ty.int IntKind.i64).pair (Ty.int IntKind.i64))).slice),
    ((15 : Nat), none, Sh.val (Ty.int IntKind.i64)), ((16 : Nat), none, Sh.val (Ty.int IntKind.i64))],
  [((0 : Nat), some (0 : Nat),
      ((Sh.val (Ty.int IntKind.u64)).cons
          ((Sh.val (Ty.int IntKind.i64)).cons
            ((Sh.val (Ty.int IntKind.i64)).cons
              ((Sh.map (MapK.mapS ((Ty.int IntKind.i64).pair (Ty.int IntKind.i64)) ((Ty.int IntKind.u64).pair (Ty.int IntKind.u16)))).cons
                Sh.unit)))).ptr),
    ((2 : Nat), none, Sh.val (Ty.int IntKind.u64)),
    ((6 : Nat), none, ((Sh.val (Ty.int IntKind.i64)).cons ((Sh.val (Ty.int IntKind.i64)).cons Sh.unit)).ptr),
    ((8 : Nat), none, ((Sh.val (Ty.int IntKind.i64)).cons ((Sh.val (Ty.int IntKind.i64)).cons Sh.unit)).ptr), ((9 : Nat), none, Sh.val Ty.bool),
    ((11 : Nat), none, ((Sh.val (Ty.int IntKind.i64)).cons ((Sh.val (Ty.int IntKind.i64)).cons ((Sh.val (Ty.int IntKind.i64)).cons Sh.unit))).ptr),
    ((12 : Nat), none, Sh.val (Ty.int IntKind.i64)),
    ((14 : Nat), none, Sh.val ((Ty.int IntKind.i64).pair ((Ty.int IntKind.i64).pair (Ty.int IntKind.i64))).slice),
    ((15 : Nat), none, Sh.val (Ty.int IntKind.i64)), ((16 : Nat), none, Sh.val (Ty.int IntKind.i64))]]
def clash_L1 (rec1 : (Int × Int × Int × List ((Int × Int) × List (Int × Int)) × Unit) ×
    Int × (Int × Int × Unit) × (Int × Int × Unit) × Bool × List (Int × Int × Int) × Int × Int × Unit →
  Option
    (((Int × Int) × Bool × Unit) ×
      (Int × Int × Int × List ((Int × Int) × List (Int × Int)) × Unit) ×
        Unit ×
          Unit ×
            Unit)) (rec11 : (Int × Int × Int × List ((Int × Int) × List (Int × Int)) × Unit) ×
    Int × (Int × Int × Unit) × (Int × Int × Unit) × Bool × (Int × Int × Int × Unit) × Int × List (Int × Int × Int) × Int × Int × Unit →
  Option
    (((Int × Int) × Bool × Unit) ×
      (Int × Int × Int × List ((Int × Int) × List (Int × Int)) × Unit) ×
        Unit ×
          Unit ×
            Unit)) : (Int × Int × Int × List ((Int × Int) × List (Int × Int)) × Unit) ×
    Int × (Int × Int × Unit) × (Int × Int × Unit) × Bool × (Int × Int × Int × Unit) × Int × List (Int × Int × Int) × Int × Int × Unit →
  Option
    (((Int × Int) × Bool × Unit) ×
      (Int × Int × Int × List ((Int × Int) × List (Int × Int)) × Unit) ×
        Unit × Unit × Unit) := fun (y13, y14, y15, y16, y17, y18, y19, y20, y21, y22, ()) =>
  br (decide (y19 < y18.2.2.1))
  (bd
    (grd (stoOk (y13.1, y13.2.1, y13.2.2.1, y13.2.2.2.1, ()))
      ((newS (chnOf y13.2.2.2.1 (y18.1, y19)), ()), (y13.1, y13.2.1, y13.2.2.1, y13.2.2.2.1, ()), (), ()))
    fun (x23 : (Int × Unit) × (Int × Int × Int × List ((Int × Int) × List (Int × Int)) × Unit) × Unit × Unit) =>
    br (decide (x23.1.1 ≤ y14))
      (rec11
        ((x23.2.1.1, x23.2.1.2.1, x23.2.1.2.2.1, x23.2.1.2.2.2.1, ()), y14, (y15.1, y15.2.1, ()), (y16.1, y16.2.1, ()), y17,
          (y18.1, y18.2.1, y18.2.2.1, ()), IntKind.i64.wrap (y19 + (1 : Int)), y20, y21, y22, ()))
      (some
        (((y18.1, y19), true, ()), (x23.2.1.1, x23.2.1.2.1, x23.2.1.2.2.1, x23.2.1.2.2.2.1, ()), (), (), ())))
  (rec1
    ((y13.1, y13.2.1, y13.2.2.1, y13.2.2.2.1, ()), y14, (y15.1, y15.2.1, ()), (y16.1, y16.2.1, ()), y17, y20, y21,
      IntKind.i64.wrap (y22 + (1 : Int)), ()))
def clash_L2 (K : Nat) (rec1 : (Int × Int × Int × List ((Int × Int) × List (Int × Int)) × Unit) ×
    Int × (Int × Int × Unit) × (Int × Int × Unit) × Bool × List (Int × Int × Int) × Int × Int × Unit →
  Option
    (((Int × Int) × Bool × Unit) ×
      (Int × Int × Int × List ((Int × Int) × List (Int × Int)) × Unit) ×
        Unit ×
          Unit ×
            Unit)) : (Int × Int × Int × List ((Int × Int) × List (Int × Int)) × Unit) ×
    Int × (Int × Int × Unit) × (Int × Int × Unit) × Bool × List (Int × Int × Int) × Int × Int × Unit →
  Option
    (((Int × Int) × Bool × Unit) ×
      (Int × Int × Int × List ((Int × Int) × List (Int × Int)) × Unit) × Unit × Unit × Unit) := fun (y3, y4, y5, y6, y7, y8, y9, y10, ()) =>
  br (decide (y10 < y9))
  (br (decide ((0 : Int) ≤ y10))
    (br (decide (y10 < (↑y8.length : Int)))
      (loopN (clash_L1 rec1) K
        ((y3.1, y3.2.1, y3.2.2.1, y3.2.2.2.1, ()), y4, (y5.1, y5.2.1, ()), (y6.1, y6.2.1, ()), y7,
          ((y8.getD y10.toNat ((0 : Int), (0 : Int), (0 : Int))).1, (y8.getD y10.toNat ((0 : Int), (0 : Int), (0 : Int))).2.1,
            (y8.getD y10.toNat ((0 : Int), (0 : Int), (0 : Int))).2.2, ()),
          (y8.getD y10.toNat ((0 : Int), (0 : Int), (0 : Int))).2.1, y8, y9, y10, ()))
      none)
    none)
  (some (((y6.1, y6.2.1), y7, ()), (y3.1, y3.2.1, y3.2.2.1, y3.2.2.2.1, ()), (), (), ()))
def clash_P (K : Nat) (a0 : Int ×
  Int ×
    Int ×
      List ((Int × Int) × List (Int × Int)) ×
        Unit) (a1 : List
  (Int ×
    Int ×
      Int)) (a2 : Int) : Option
  (((Int × Int) × Bool × Unit) × (Int × Int × Int × List ((Int × Int) × List (Int × Int)) × Unit) × Unit × Unit × Unit) :=
  loopN (clash_L2 K) K
  ((a0.1, a0.2.1, a0.2.2.1, a0.2.2.2.1, ()), a2, ((0 : Int), (0 : Int), ()), ((0 : Int), (0 : Int), ()), false, a1,
    (↑a1.length : Int), (0 : Int), ())
theorem clash_rn (K : Nat) (a0 : Int ×
  Int ×
    Int ×
      List ((Int × Int) × List (Int × Int)) ×
        Unit) (a1 : List
  (Int ×
    Int ×
      Int)) (a2 : Int) : runF (cfgW g_clash) K f_clash clash_tm [.box shStore, .val (.slice tSpan), .val tU] [.val tKey, .val .bool] (a0, a1, a2, ()) = clash_P K a0 a1 a2 := by kernel_rfl
abbrev g_fresh : List (Nat × Ctr O0) := [(n_clash, c_clash)]
def fresh_tm : List Tm := []
def fresh_P (K : Nat) (a0 : Int ×
  Int ×
    Int ×
      List ((Int × Int) × List (Int × Int)) ×
        Unit) (a1 : List
  (Int ×
    Int × Int)) (a2 : Int) : Option ((Bool × Unit) × (Int × Int × Int × List ((Int × Int) × List (Int × Int)) × Unit) × Unit × Unit × Unit) :=
  bd
  (grd (stoOk (a0.1, a0.2.1, a0.2.2.1, a0.2.2.2.1, ()) && (lenOk a1 && rightsS a1))
    (((clashP a0.2.2.2.1 a1 a2).1, (clashP a0.2.2.2.1 a1 a2).2, ()), (a0.1, a0.2.1, a0.2.2.1, a0.2.2.2.1, ()), (), (),
      ()))
  fun (x1 : ((Int × Int) × Bool × Unit) × (Int × Int × Int × List ((Int × Int) × List (Int × Int)) × Unit) × Unit × Unit × Unit) =>
  some ((!x1.1.2.1, ()), (x1.2.1.1, x1.2.1.2.1, x1.2.1.2.2.1, x1.2.1.2.2.2.1, ()), (), (), ())
theorem fresh_rn (K : Nat) (a0 : Int ×
  Int ×
    Int ×
      List ((Int × Int) × List (Int × Int)) ×
        Unit) (a1 : List
  (Int ×
    Int ×
      Int)) (a2 : Int) : runF (cfgW g_fresh) K f_fresh fresh_tm [.box shStore, .val (.slice tSpan), .val tU] [.val .bool] (a0, a1, a2, ()) = fresh_P K a0 a1 a2 := by kernel_rfl
abbrev g_rclash : List (Nat × Ctr O0) := [(n_rnewest, c_rnewest), (n_rhas, c_rhas)]
def rclash_tm : List Tm := [[((0 : Nat), none,
      Sh.rop
        ((Ty.int IntKind.u64).pair
          ((Ty.int IntKind.i64).pair
            ((((Ty.int IntKind.i64).pair (Ty.int IntKind.i64)).pair ((Ty.int IntKind.u64).pair (Ty.int IntKind.u16)).slice).slice.pair Ty.unit)))),
    ((1 : Nat), none, Sh.val ((Ty.int IntKind.i64).pair ((Ty.int IntKind.i64).pair (Ty.int IntKind.i64))).slice),
    ((2 : Nat), none, Sh.val (Ty.int IntKind.u64)),
    ((6 : Nat), none, ((Sh.val (Ty.int IntKind.i64)).cons ((Sh.val (Ty.int IntKind.i64)).cons Sh.unit)).ptr),
    ((8 : Nat), none, Sh.val (Ty.int IntKind.i64))]]
def rclash_L1 (rec1 : (Int × Int × List ((Int × Int) × List (Int × Int)) × Unit) × List (Int × Int × Int) × Int × (Int × Int × Unit) × Int × Unit →
  Option
    (((Int × Int) × Bool × Unit) ×
      Unit ×
        Unit ×
          Unit ×
            Unit)) : (Int × Int × List ((Int × Int) × List (Int × Int)) × Unit) × List (Int × Int × Int) × Int × (Int × Int × Unit) × Int × Unit →
  Option (((Int × Int) × Bool × Unit) × Unit × Unit × Unit × Unit) := fun (y3, y4, y5, y6, y7, ()) =>
  br (decide (y7 < (↑y3.2.2.1.length : Int)))
  (br (decide ((0 : Int) ≤ y7))
    (br (decide (y7 < (↑y3.2.2.1.length : Int)))
      (bd
        (grd (lenOk (y3.2.2.1.getD y7.toNat (((0 : Int), (0 : Int)), [])).2)
          ((newS (y3.2.2.1.getD y7.toNat (((0 : Int), (0 : Int)), [])).2, ()), (), ()))
        fun (x8 : (Int × Unit) × Unit × Unit) =>
        br (decide (x8.1.1 > y5))
          (br (decide ((0 : Int) ≤ y7))
            (br (decide (y7 < (↑y3.2.2.1.length : Int)))
              (bd
                (grd (lenOk y4)
                  ((hasS y4 ((y3.2.2.1.getD y7.toNat (((0 : Int), (0 : Int)), [])).1.1, (y3.2.2.1.getD y7.toNat (((0 : Int), (0 : Int)), [])).1.2),
                      ()),
                    (), (), ()))
                fun (x9 : (Bool × Unit) × Unit × Unit × Unit) =>
                br x9.1.1
                  (br (decide ((0 : Int) ≤ y7))
                    (br (decide (y7 < (↑y3.2.2.1.length : Int)))
                      (some
                        ((((y3.2.2.1.getD y7.toNat (((0 : Int), (0 : Int)), [])).1.1, (y3.2.2.1.getD y7.toNat (((0 : Int), (0 : Int)), [])).1.2),
                            true, ()),
                          (), (), (), ()))
                      none)
                    none)
                  (rec1 (y3, y4, y5, (y6.1, y6.2.1, ()), IntKind.i64.wrap (y7 + (1 : Int)), ())))
              none)
            none)
          (rec1 (y3, y4, y5, (y6.1, y6.2.1, ()), IntKind.i64.wrap (y7 + (1 : Int)), ())))
      none)
    none)
  (some ((((0 : Int), (0 : Int)), false, ()), (), (), (), ()))
def rclash_P (K : Nat) (a0 : Int ×
  Int ×
    List ((Int × Int) × List (Int × Int)) ×
      Unit) (a1 : List (Int × Int × Int)) (a2 : Int) : Option (((Int × Int) × Bool × Unit) × Unit × Unit × Unit × Unit) :=
  loopN rclash_L1 K (a0, a1, a2, ((0 : Int), (0 : Int), ()), (0 : Int), ())
theorem rclash_rn (K : Nat) (a0 : Int ×
  Int ×
    List ((Int × Int) × List (Int × Int)) ×
      Unit) (a1 : List
  (Int ×
    Int ×
      Int)) (a2 : Int) : runF (cfgW g_rclash) K f_rclash rclash_tm [.rop tRef, .val (.slice tSpan), .val tU] [.val tKey, .val .bool] (a0, a1, a2, ()) = rclash_P K a0 a1 a2 := by kernel_rfl
abbrev g_stores : List (Nat × Ctr O0) := [(n_stNew, c_stNew), (n_rstNew, c_rstNew), (n_cells, c_cells), (n_stInstall, c_stInstall), (n_rstInstall, c_rstInstall)]
def stores_tm : List Tm := [[((0 : Nat), none, Sh.val (Ty.int IntKind.i64).slice),
    ((4 : Nat), none,
      ((Sh.val (Ty.int IntKind.u64)).cons
          ((Sh.val (Ty.int IntKind.i64)).cons
            ((Sh.val (Ty.int IntKind.i64)).cons
              ((Sh.map (MapK.mapS ((Ty.int IntKind.i64).pair (Ty.int IntKind.i64)) ((Ty.int IntKind.u64).pair (Ty.int IntKind.u16)))).cons
                Sh.unit)))).ptr),
    ((5 : Nat), none,
      ((Sh.val (Ty.int IntKind.u64)).cons
          ((Sh.val (Ty.int IntKind.i64)).cons
            ((Sh.own (((Ty.int IntKind.i64).pair (Ty.int IntKind.i64)).pair ((Ty.int IntKind.u64).pair (Ty.int IntKind.u16)).slice)).cons
              Sh.unit))).ptr),
    ((6 : Nat), none, Sh.val (Ty.int IntKind.i64))]]
def stores_L1 (rec1 : List Int ×
    (Int × Int × Int × List ((Int × Int) × List (Int × Int)) × Unit) × (Int × Int × List ((Int × Int) × List (Int × Int)) × Unit) × Int × Unit →
  Option
    (((Int × Int × Int × List ((Int × Int) × List (Int × Int)) × Unit) × (Int × Int × List ((Int × Int) × List (Int × Int)) × Unit) × Unit) ×
      Unit ×
        Unit)) : List Int ×
    (Int × Int × Int × List ((Int × Int) × List (Int × Int)) × Unit) × (Int × Int × List ((Int × Int) × List (Int × Int)) × Unit) × Int × Unit →
  Option
    (((Int × Int × Int × List ((Int × Int) × List (Int × Int)) × Unit) × (Int × Int × List ((Int × Int) × List (Int × Int)) × Unit) × Unit) ×
      Unit × Unit) := fun (y3, y4, y5, y6, ()) =>
  br (decide (y6 < (↑y3.length : Int)))
  (br (decide (y6 < (40 : Int)))
    (br (decide ((0 : Int) ≤ y6))
      (br (decide (y6 ≤ minI (IntKind.i64.wrap (y6 + (3 : Int))) (↑y3.length : Int)))
        (br (decide (minI (IntKind.i64.wrap (y6 + (3 : Int))) (↑y3.length : Int) ≤ (↑y3.length : Int)))
          (bd
            (grd
              (stoOk (y4.1, y4.2.1, y4.2.2.1, y4.2.2.2.1, ()) &&
                lenOk (cellsS (List.take ((minI (IntKind.i64.wrap (y6 + (3 : Int))) (↑y3.length : Int)).toNat - y6.toNat) (List.drop y6.toNat y3))))
              (((instS (y4.1, y4.2.1, y4.2.2.1, y4.2.2.2.1, ())
                        (cellsS
                          (List.take ((minI (IntKind.i64.wrap (y6 + (3 : Int))) (↑y3.length : Int)).toNat - y6.toNat) (List.drop y6.toNat y3)))).1.1,
                  (instS (y4.1, y4.2.1, y4.2.2.1, y4.2.2.2.1, ())
                        (cellsS
                          (List.take ((minI (IntKind.i64.wrap (y6 + (3 : Int))) (↑y3.length : Int)).toNat - y6.toNat) (List.drop y6.toNat y3)))).1.2,
                  ()),
                (instS (y4.1, y4.2.1, y4.2.2.1, y4.2.2.2.1, ())
                    (cellsS (List.take ((minI (IntKind.i64.wrap (y6 + (3 : Int))) (↑y3.length : Int)).toNat - y6.toNat) (List.drop y6.toNat y3)))).2,
                (), ()))
            fun (x7 : (Int × Int × Unit) × (Int × Int × Int × List ((Int × Int) × List (Int × Int)) × Unit) × Unit × Unit) =>
            bd
              (grd
                (refOk (y5.1, y5.2.1, y5.2.2.1, ()) &&
                  (lenOk
                      (cellsS (List.take ((minI (IntKind.i64.wrap (y6 + (3 : Int))) (↑y3.length : Int)).toNat - y6.toNat) (List.drop y6.toNat y3))) &&
                    decide
                      ((cellsS
                            (List.take ((minI (IntKind.i64.wrap (y6 + (3 : Int))) (↑y3.length : Int)).toNat - y6.toNat)
                              (List.drop y6.toNat y3))).length ≤
                        (100000 : Nat))))
                (((rinstS (y5.1, y5.2.1, y5.2.2.1, ())
                          (cellsS
                            (List.take ((minI (IntKind.i64.wrap (y6 + (3 : Int))) (↑y3.length : Int)).toNat - y6.toNat)
                              (List.drop y6.toNat y3)))).1.1,
                    (rinstS (y5.1, y5.2.1, y5.2.2.1, ())
                          (cellsS
                            (List.take ((minI (IntKind.i64.wrap (y6 + (3 : Int))) (↑y3.length : Int)).toNat - y6.toNat)
                              (List.drop y6.toNat y3)))).1.2,
                    ()),
                  (rinstS (y5.1, y5.2.1, y5.2.2.1, ())
                      (cellsS
                        (List.take ((minI (IntKind.i64.wrap (y6 + (3 : Int))) (↑y3.length : Int)).toNat - y6.toNat) (List.drop y6.toNat y3)))).2,
                  (), ()))
              fun (x8 : (Int × Int × Unit) × (Int × Int × List ((Int × Int) × List (Int × Int)) × Unit) × Unit × Unit) =>
              rec1
                (y3, (x7.2.1.1, x7.2.1.2.1, x7.2.1.2.2.1, x7.2.1.2.2.2.1, ()), (x8.2.1.1, x8.2.1.2.1, x8.2.1.2.2.1, ()),
                  IntKind.i64.wrap (y6 + (3 : Int)), ()))
          none)
        none)
      none)
    (some (((y4.1, y4.2.1, y4.2.2.1, y4.2.2.2.1, ()), (y5.1, y5.2.1, y5.2.2.1, ()), ()), (), ())))
  (some (((y4.1, y4.2.1, y4.2.2.1, y4.2.2.2.1, ()), (y5.1, y5.2.1, y5.2.2.1, ()), ()), (), ()))
def stores_P (K : Nat) (a0 : List
  Int) : Option
  (((Int × Int × Int × List ((Int × Int) × List (Int × Int)) × Unit) × (Int × Int × List ((Int × Int) × List (Int × Int)) × Unit) × Unit) ×
    Unit × Unit) :=
  loopN stores_L1 K
  (a0,
    ((stNewS (0 : Int) (10000 : Int)).1, (stNewS (0 : Int) (10000 : Int)).2.1, (stNewS (0 : Int) (10000 : Int)).2.2.1,
      (stNewS (0 : Int) (10000 : Int)).2.2.2.1, ()),
    ((rstNewS (0 : Int) (10000 : Int)).1, (rstNewS (0 : Int) (10000 : Int)).2.1, (rstNewS (0 : Int) (10000 : Int)).2.2.1, ()), (0 : Int),
    ())
theorem stores_rn (K : Nat) (a0 : List
  Int) : runF (cfgW g_stores) K f_stores stores_tm [.val (.slice tI)] [.box shStore, .box shRef] (a0, ()) = stores_P K a0 := by kernel_rfl
abbrev g_sameView : List (Nat × Ctr O0) := [(n_sameSpans, c_sameSpans), (n_sameCells, c_sameCells)]
def sameView_tm : List Tm := []
def sameView_P (K : Nat) (a0 : Int ×
  List (Int × Int × Int) ×
    List ((Int × Int) × Int)) (a1 : Int × List (Int × Int × Int) × List ((Int × Int) × Int)) : Option ((Bool × Unit) × Unit × Unit × Unit) :=
  br (a0.1 == a1.1)
  (bd (grd (decide (a0.2.1.length < (1000000 : Nat))) ((sameS a0.2.1 a1.2.1, ()), (), (), ()))
    fun (x1 : (Bool × Unit) × Unit × Unit × Unit) =>
    br x1.1.1
      (bd (grd (decide (a0.2.2.length < (1000000 : Nat))) ((sameS a0.2.2 a1.2.2, ()), (), (), ()))
        fun (x2 : (Bool × Unit) × Unit × Unit × Unit) => some ((x2.1.1, ()), (), (), ()))
      (some ((false, ()), (), (), ())))
  (some ((false, ()), (), (), ()))
theorem sameView_rn (K : Nat) (a0 : Int ×
  List (Int × Int × Int) ×
    List
      ((Int × Int) ×
        Int)) (a1 : Int ×
  List (Int × Int × Int) ×
    List
      ((Int × Int) ×
        Int)) : runF (cfgW g_sameView) K f_sameView sameView_tm [.val tView, .val tView] [.val .bool] (a0, a1, ()) = sameView_P K a0 a1 := by kernel_rfl
abbrev g_short : List (Nat × Ctr O0) := [(n_span, c_span)]
def short_tm : List Tm := []
def short_P (K : Nat) (a0 : Int) : Option (((Int × Int × Int) × Unit) × Unit × Unit) :=
  some ((((spanS a0).1, (spanS a0).2.1, minI (spanS a0).2.2 (IntKind.i64.wrap ((spanS a0).2.1 + (60 : Int)))), ()), (), ())
theorem short_rn (K : Nat) (a0 : Int) : runF (cfgW g_short) K f_short short_tm [.val tI] [.val tSpan] (a0, ()) = short_P K a0 := by kernel_rfl
end
end Go.BB
