/- A symbolic machine for the model's code, and what it shows of this seat's functions. No conditions. -/
import Derived.Test.YteaomngbkklfoaaRN
import Derived.Test.YteaomngbkklfoaaRSView
set_option linter.unusedSimpArgs false
set_option linter.unusedVariables false
namespace Go.BB
open Go Go.Proofs
set_option maxRecDepth 100000
set_option exponentiation.threshold 100000
noncomputable section
abbrev g_lValidTells : List (Nat × Ctr O0) := [(n_awake20, c_awake20), (n_stores, c_stores), (n_spans, c_spans), (n_lentSpans, c_lentSpans), (n_clash, c_clash), (n_rclash, c_rclash), (n_fresh, c_fresh), (n_staysSpans, c_staysSpans)]
def lValidTells_tm : List Tm := []
def lValidTells_P (K : Nat) (a0 : List Int) (a1 : List Int) (a2 : Int) : Option ((Bool × Unit) × Unit × Unit × Unit × Unit) :=
  br (decide ((↑a0.length : Int) > (40 : Int))) (some ((true, ()), (), (), (), ()))
  (br (!true) (some ((true, ()), (), (), (), ()))
    (bd (grd (lenOk a0) (((storesS a0).1, (storesS a0).2, ()), (), ()))
      fun
        (x1 :
          ((Int × Int × Int × List ((Int × Int) × List (Int × Int)) × Unit) × (Int × Int × List ((Int × Int) × List (Int × Int)) × Unit) × Unit) ×
            Unit × Unit) =>
      br (!false)
        (bd
          (grd (decide ((spansS a1).length < (1000000 : Nat)))
            (((lentS ((7 : Int), (7 : Int), (7 : Int)) (spansS a1), (spansS a1).length), ()), (), ()))
          fun (x2 : ((List (Int × Int × Int) × Nat) × Unit) × Unit × Unit) =>
          bd
            (grd
              (stoOk (x1.1.1.1, x1.1.1.2.1, x1.1.1.2.2.1, x1.1.1.2.2.2.1, ()) &&
                (lenOk (List.take x2.1.1.2 (List.drop (0 : Nat) x2.1.1.1)) && rightsS (List.take x2.1.1.2 (List.drop (0 : Nat) x2.1.1.1))))
              (((clashP x1.1.1.2.2.2.1 (List.take x2.1.1.2 (List.drop (0 : Nat) x2.1.1.1)) (a2.tmod (16 : Int))).1,
                  (clashP x1.1.1.2.2.2.1 (List.take x2.1.1.2 (List.drop (0 : Nat) x2.1.1.1)) (a2.tmod (16 : Int))).2, ()),
                (x1.1.1.1, x1.1.1.2.1, x1.1.1.2.2.1, x1.1.1.2.2.2.1, ()), (), (), ()))
            fun (x3 : ((Int × Int) × Bool × Unit) × (Int × Int × Int × List ((Int × Int) × List (Int × Int)) × Unit) × Unit × Unit × Unit) =>
            bd
              (grd (refOk (x1.1.2.1.1, x1.1.2.1.2.1, x1.1.2.1.2.2.1, ()) && lenOk (spansS a1))
                (((clashD x1.1.2.1.2.2.1 (spansS a1) (a2.tmod (16 : Int))).1, (clashD x1.1.2.1.2.2.1 (spansS a1) (a2.tmod (16 : Int))).2, ()),
                  (), (), (), ()))
              fun (x4 : ((Int × Int) × Bool × Unit) × Unit × Unit × Unit × Unit) =>
              br (x3.1.1.1 == x4.1.1.1 && x3.1.1.2 == x4.1.1.2)
                (br (x3.1.2.1 == x4.1.2.1)
                  (bd
                    (grd
                      (stoOk (x3.2.1.1, x3.2.1.2.1, x3.2.1.2.2.1, x3.2.1.2.2.2.1, ()) &&
                        (lenOk (List.take x2.1.1.2 (List.drop (0 : Nat) x2.1.1.1)) && rightsS (List.take x2.1.1.2 (List.drop (0 : Nat) x2.1.1.1))))
                      ((!(clashP x3.2.1.2.2.2.1 (List.take x2.1.1.2 (List.drop (0 : Nat) x2.1.1.1)) (a2.tmod (16 : Int))).2, ()),
                        (x3.2.1.1, x3.2.1.2.1, x3.2.1.2.2.1, x3.2.1.2.2.2.1, ()), (), (), ()))
                    fun (x5 : (Bool × Unit) × (Int × Int × Int × List ((Int × Int) × List (Int × Int)) × Unit) × Unit × Unit × Unit) =>
                    br (x5.1.1 == !x4.1.2.1)
                      (bd
                        (grd (staysS ((7 : Int), (7 : Int), (7 : Int)) x2.1.1.1 x2.1.1.2 (spansS a1) && decide ((spansS a1).length < (1000000 : Nat)))
                          ((true, ()), x2.1.1.1, (), ()))
                        fun (x6 : (Bool × Unit) × List (Int × Int × Int) × Unit × Unit) =>
                        some ((x6.1.1, ()), (), (), (), ()))
                      (some ((false, ()), (), (), (), ())))
                  (some ((false, ()), (), (), (), ())))
                (some ((false, ()), (), (), (), ())))
        none))
theorem lValidTells_rn (K : Nat) (a0 : List
  Int) (a1 : List
  Int) (a2 : Int) : runF (cfgW g_lValidTells) K f_lValidTells lValidTells_tm [.val (.slice tI), .val (.slice tI), .val tU] [.val .bool] (a0, a1, a2, ()) = lValidTells_P K a0 a1 a2 := by kernel_rfl
abbrev g_lValidFresh : List (Nat × Ctr O0) := [(n_awake20, c_awake20), (n_stores, c_stores), (n_span, c_span), (n_fresh, c_fresh), (n_stNewest, c_stNewest), (n_stLast, c_stLast), (n_stRead, c_stRead)]
def lValidFresh_tm : List Tm := [[((2 : Nat), none, Sh.val (Ty.int IntKind.u64)),
    ((7 : Nat), none,
      ((Sh.val (Ty.int IntKind.u64)).cons
          ((Sh.val (Ty.int IntKind.i64)).cons
            ((Sh.val (Ty.int IntKind.i64)).cons
              ((Sh.map (MapK.mapS ((Ty.int IntKind.i64).pair (Ty.int IntKind.i64)) ((Ty.int IntKind.u64).pair (Ty.int IntKind.u16)))).cons
                Sh.unit)))).ptr),
    ((9 : Nat), none, ((Sh.val (Ty.int IntKind.i64)).cons ((Sh.val (Ty.int IntKind.i64)).cons ((Sh.val (Ty.int IntKind.i64)).cons Sh.unit))).ptr),
    ((10 : Nat), none, Sh.val Ty.bool), ((11 : Nat), none, Sh.val Ty.bool), ((12 : Nat), none, Sh.val (Ty.int IntKind.i64))]]
def lValidFresh_L1 (rec3 : Int ×
    (Int × Int × Int × List ((Int × Int) × List (Int × Int)) × Unit) × (Int × Int × Int × Unit) × Bool × Bool × Int × Unit →
  Option
    ((Bool × Unit) ×
      Unit ×
        Unit ×
          Unit ×
            Unit)) : Int ×
    (Int × Int × Int × List ((Int × Int) × List (Int × Int)) × Unit) × (Int × Int × Int × Unit) × Bool × Bool × Int × Unit →
  Option ((Bool × Unit) × Unit × Unit × Unit × Unit) := fun (y5, y6, y7, y8, y9, y10, ()) =>
  br (decide (y10 < y7.2.2.1))
  (br y9
    (br y8
      (bd
        (grd (stoOk (y6.1, y6.2.1, y6.2.2.1, y6.2.2.2.1, ()))
          ((atV (chnOf y6.2.2.2.1 (y7.1, y10)) y6.1, ()), (y6.1, y6.2.1, y6.2.2.1, y6.2.2.2.1, ()), (), (),
            ()))
        fun (x11 : (Int × Unit) × (Int × Int × Int × List ((Int × Int) × List (Int × Int)) × Unit) × Unit × Unit × Unit) =>
        bd
          (grd (stoOk (x11.2.1.1, x11.2.1.2.1, x11.2.1.2.2.1, x11.2.1.2.2.2.1, ()))
            ((atV (chnOf x11.2.1.2.2.2.1 (y7.1, y10)) y5, ()), (x11.2.1.1, x11.2.1.2.1, x11.2.1.2.2.1, x11.2.1.2.2.2.1, ()),
              (), (), ()))
          fun (x12 : (Int × Unit) × (Int × Int × Int × List ((Int × Int) × List (Int × Int)) × Unit) × Unit × Unit × Unit) =>
          br (x11.1.1 != x12.1.1) (some ((false, ()), (), (), (), ()))
            (rec3
              (y5, (x12.2.1.1, x12.2.1.2.1, x12.2.1.2.2.1, x12.2.1.2.2.2.1, ()), (y7.1, y7.2.1, y7.2.2.1, ()), y8, true,
                IntKind.i64.wrap (y10 + (1 : Int)), ())))
      (rec3
        (y5, (y6.1, y6.2.1, y6.2.2.1, y6.2.2.2.1, ()), (y7.1, y7.2.1, y7.2.2.1, ()), y8, true, IntKind.i64.wrap (y10 + (1 : Int)),
          ())))
    (bd
      (grd (stoOk (y6.1, y6.2.1, y6.2.2.1, y6.2.2.2.1, ()))
        ((newS (chnOf y6.2.2.2.1 (y7.1, y10)), ()), (y6.1, y6.2.1, y6.2.2.1, y6.2.2.2.1, ()), (), ()))
      fun (x13 : (Int × Unit) × (Int × Int × Int × List ((Int × Int) × List (Int × Int)) × Unit) × Unit × Unit) =>
      br y8
        (bd
          (grd (stoOk (x13.2.1.1, x13.2.1.2.1, x13.2.1.2.2.1, x13.2.1.2.2.2.1, ()))
            ((atV (chnOf x13.2.1.2.2.2.1 (y7.1, y10)) x13.2.1.1, ()), (x13.2.1.1, x13.2.1.2.1, x13.2.1.2.2.1, x13.2.1.2.2.2.1, ()),
              (), (), ()))
          fun (x14 : (Int × Unit) × (Int × Int × Int × List ((Int × Int) × List (Int × Int)) × Unit) × Unit × Unit × Unit) =>
          bd
            (grd (stoOk (x14.2.1.1, x14.2.1.2.1, x14.2.1.2.2.1, x14.2.1.2.2.2.1, ()))
              ((atV (chnOf x14.2.1.2.2.2.1 (y7.1, y10)) y5, ()), (x14.2.1.1, x14.2.1.2.1, x14.2.1.2.2.1, x14.2.1.2.2.2.1, ()),
                (), (), ()))
            fun (x15 : (Int × Unit) × (Int × Int × Int × List ((Int × Int) × List (Int × Int)) × Unit) × Unit × Unit × Unit) =>
            br (x14.1.1 != x15.1.1) (some ((false, ()), (), (), (), ()))
              (rec3
                (y5, (x15.2.1.1, x15.2.1.2.1, x15.2.1.2.2.1, x15.2.1.2.2.2.1, ()), (y7.1, y7.2.1, y7.2.2.1, ()), y8,
                  decide (x13.1.1 > y5), IntKind.i64.wrap (y10 + (1 : Int)), ())))
        (rec3
          (y5, (x13.2.1.1, x13.2.1.2.1, x13.2.1.2.2.1, x13.2.1.2.2.2.1, ()), (y7.1, y7.2.1, y7.2.2.1, ()), y8, decide (x13.1.1 > y5),
            IntKind.i64.wrap (y10 + (1 : Int)), ()))))
  (some ((y8 == !y9, ()), (), (), (), ()))
def lValidFresh_P (K : Nat) (a0 : List Int) (a1 : Int) (a2 : Int) : Option ((Bool × Unit) × Unit × Unit × Unit × Unit) :=
  br (decide ((↑a0.length : Int) > (40 : Int))) (some ((true, ()), (), (), (), ()))
  (br (!true) (some ((true, ()), (), (), (), ()))
    (bd (grd (lenOk a0) (((storesS a0).1, (storesS a0).2, ()), (), ()))
      fun
        (x1 :
          ((Int × Int × Int × List ((Int × Int) × List (Int × Int)) × Unit) × (Int × Int × List ((Int × Int) × List (Int × Int)) × Unit) × Unit) ×
            Unit × Unit) =>
      br (!false)
        (bd
          (grd
            (stoOk (x1.1.1.1, x1.1.1.2.1, x1.1.1.2.2.1, x1.1.1.2.2.2.1, ()) &&
              (lenOk [((spanS a1).1, (spanS a1).2.1, minI (spanS a1).2.2 (IntKind.i64.wrap ((spanS a1).2.1 + (60 : Int))))] &&
                rightsS [((spanS a1).1, (spanS a1).2.1, minI (spanS a1).2.2 (IntKind.i64.wrap ((spanS a1).2.1 + (60 : Int))))]))
            ((!(clashP x1.1.1.2.2.2.1 [((spanS a1).1, (spanS a1).2.1, minI (spanS a1).2.2 (IntKind.i64.wrap ((spanS a1).2.1 + (60 : Int))))]
                      (a2.tmod (16 : Int))).2,
                ()),
              (x1.1.1.1, x1.1.1.2.1, x1.1.1.2.2.1, x1.1.1.2.2.2.1, ()), (), (), ()))
          fun (x2 : (Bool × Unit) × (Int × Int × Int × List ((Int × Int) × List (Int × Int)) × Unit) × Unit × Unit × Unit) =>
          loopN lValidFresh_L1 K
            (a2.tmod (16 : Int), (x2.2.1.1, x2.2.1.2.1, x2.2.1.2.2.1, x2.2.1.2.2.2.1, ()),
              ((spanS a1).1, (spanS a1).2.1, minI (spanS a1).2.2 (IntKind.i64.wrap ((spanS a1).2.1 + (60 : Int))), ()), x2.1.1, false,
              (spanS a1).2.1, ()))
        none))
theorem lValidFresh_rn (K : Nat) (a0 : List
  Int) (a1 : Int) (a2 : Int) : runF (cfgW g_lValidFresh) K f_lValidFresh lValidFresh_tm [.val (.slice tI), .val tI, .val tU] [.val .bool] (a0, a1, a2, ()) = lValidFresh_P K a0 a1 a2 := by kernel_rfl
abbrev g_lValidParts : List (Nat × Ctr O0) := [(n_awake20, c_awake20), (n_stores, c_stores), (n_spans, c_spans), (n_fresh, c_fresh), (n_clash, c_clash), (n_rhas, c_rhas), (n_stNewest, c_stNewest)]
def lValidParts_tm : List Tm := [[((2 : Nat), none, Sh.val (Ty.int IntKind.u64)), ((3 : Nat), none, Sh.val (Ty.int IntKind.u64)),
    ((9 : Nat), none,
      ((Sh.val (Ty.int IntKind.u64)).cons
          ((Sh.val (Ty.int IntKind.i64)).cons
            ((Sh.val (Ty.int IntKind.i64)).cons
              ((Sh.map (MapK.mapS ((Ty.int IntKind.i64).pair (Ty.int IntKind.i64)) ((Ty.int IntKind.u64).pair (Ty.int IntKind.u16)))).cons
                Sh.unit)))).ptr),
    ((11 : Nat), none, Sh.own ((Ty.int IntKind.i64).pair ((Ty.int IntKind.i64).pair (Ty.int IntKind.i64)))), ((12 : Nat), none, Sh.val Ty.bool),
    ((13 : Nat), none, Sh.val (Ty.int IntKind.i64))]]
def lValidParts_L1 (rec2 : Int ×
    Int × (Int × Int × Int × List ((Int × Int) × List (Int × Int)) × Unit) × List (Int × Int × Int) × Bool × Int × Unit →
  Option
    ((Bool × Unit) ×
      Unit ×
        Unit ×
          Unit ×
            Unit ×
              Unit)) : Int × Int × (Int × Int × Int × List ((Int × Int) × List (Int × Int)) × Unit) × List (Int × Int × Int) × Bool × Int × Unit →
  Option ((Bool × Unit) × Unit × Unit × Unit × Unit × Unit) := fun (y4, y5, y6, y7, y8, y9, ()) =>
  br (decide (y9 < (↑y7.length : Int)))
  (br y8
    (br (decide ((0 : Int) ≤ y9))
      (br (decide (y9 ≤ IntKind.i64.wrap (y9 + (1 : Int))))
        (br (decide (IntKind.i64.wrap (y9 + (1 : Int)) ≤ (↑y7.length : Int)))
          (bd
            (grd
              (stoOk (y6.1, y6.2.1, y6.2.2.1, y6.2.2.2.1, ()) &&
                (lenOk (List.take ((IntKind.i64.wrap (y9 + (1 : Int))).toNat - y9.toNat) (List.drop y9.toNat y7)) &&
                  rightsS (List.take ((IntKind.i64.wrap (y9 + (1 : Int))).toNat - y9.toNat) (List.drop y9.toNat y7))))
              ((!(clashP y6.2.2.2.1 (List.take ((IntKind.i64.wrap (y9 + (1 : Int))).toNat - y9.toNat) (List.drop y9.toNat y7)) y4).2, ()),
                (y6.1, y6.2.1, y6.2.2.1, y6.2.2.2.1, ()), (), (), ()))
            fun (x10 : (Bool × Unit) × (Int × Int × Int × List ((Int × Int) × List (Int × Int)) × Unit) × Unit × Unit × Unit) =>
            rec2
              (y4, y5, (x10.2.1.1, x10.2.1.2.1, x10.2.1.2.2.1, x10.2.1.2.2.2.1, ()), y7, x10.1.1, IntKind.i64.wrap (y9 + (1 : Int)),
                ()))
          none)
        none)
      none)
    (rec2 (y4, y5, (y6.1, y6.2.1, y6.2.2.1, y6.2.2.2.1, ()), y7, false, IntKind.i64.wrap (y9 + (1 : Int)), ())))
  (bd
    (grd (stoOk (y6.1, y6.2.1, y6.2.2.1, y6.2.2.2.1, ()) && (lenOk y7 && rightsS y7))
      ((!(clashP y6.2.2.2.1 y7 y4).2, ()), (y6.1, y6.2.1, y6.2.2.1, y6.2.2.2.1, ()), (), (), ()))
    fun (x11 : (Bool × Unit) × (Int × Int × Int × List ((Int × Int) × List (Int × Int)) × Unit) × Unit × Unit × Unit) =>
    bd
      (grd (stoOk (x11.2.1.1, x11.2.1.2.1, x11.2.1.2.2.1, x11.2.1.2.2.2.1, ()) && (lenOk y7 && rightsS y7))
        (((clashP x11.2.1.2.2.2.1 y7 y4).1, (clashP x11.2.1.2.2.2.1 y7 y4).2, ()),
          (x11.2.1.1, x11.2.1.2.1, x11.2.1.2.2.1, x11.2.1.2.2.2.1, ()), (), (), ()))
      fun (x12 : ((Int × Int) × Bool × Unit) × (Int × Int × Int × List ((Int × Int) × List (Int × Int)) × Unit) × Unit × Unit × Unit) =>
      br (x11.1.1 == y8)
        (br (!x11.1.1)
          (br (x12.1.2.1 == !x11.1.1)
            (br (!x12.1.2.1)
              (bd
                (grd (stoOk (x12.2.1.1, x12.2.1.2.1, x12.2.1.2.2.1, x12.2.1.2.2.2.1, ()) && (lenOk ([] : List (Int × Int × Int)) && rightsS []))
                  ((!(clashP x12.2.1.2.2.2.1 [] y4).2, ()), (x12.2.1.1, x12.2.1.2.1, x12.2.1.2.2.1, x12.2.1.2.2.2.1, ()), (),
                    (), ()))
                fun (x13 : (Bool × Unit) × (Int × Int × Int × List ((Int × Int) × List (Int × Int)) × Unit) × Unit × Unit × Unit) =>
                some ((x13.1.1, ()), (), (), (), (), ()))
              (bd (grd (lenOk y7) ((hasS y7 (x12.1.1.1, x12.1.1.2), ()), (), (), ()))
                fun (x14 : (Bool × Unit) × Unit × Unit × Unit) =>
                br x14.1.1
                  (bd
                    (grd (stoOk (x12.2.1.1, x12.2.1.2.1, x12.2.1.2.2.1, x12.2.1.2.2.2.1, ()))
                      ((newS (chnOf x12.2.1.2.2.2.1 (x12.1.1.1, x12.1.1.2)), ()),
                        (x12.2.1.1, x12.2.1.2.1, x12.2.1.2.2.1, x12.2.1.2.2.2.1, ()), (), ()))
                    fun (x15 : (Int × Unit) × (Int × Int × Int × List ((Int × Int) × List (Int × Int)) × Unit) × Unit × Unit) =>
                    br (decide (x15.1.1 > y4))
                      (bd
                        (grd (stoOk (x15.2.1.1, x15.2.1.2.1, x15.2.1.2.2.1, x15.2.1.2.2.2.1, ()) && (lenOk ([] : List (Int × Int × Int)) && rightsS []))
                          ((!(clashP x15.2.1.2.2.2.1 [] y4).2, ()), (x15.2.1.1, x15.2.1.2.1, x15.2.1.2.2.1, x15.2.1.2.2.2.1, ()),
                            (), (), ()))
                        fun (x16 : (Bool × Unit) × (Int × Int × Int × List ((Int × Int) × List (Int × Int)) × Unit) × Unit × Unit × Unit) =>
                        some ((x16.1.1, ()), (), (), (), (), ()))
                      (some ((false, ()), (), (), (), (), ())))
                  (some ((false, ()), (), (), (), (), ()))))
            (some ((false, ()), (), (), (), (), ())))
          (br (!false)
            (bd
              (grd (stoOk (x12.2.1.1, x12.2.1.2.1, x12.2.1.2.2.1, x12.2.1.2.2.2.1, ()) && (lenOk y7 && rightsS y7))
                ((!(clashP x12.2.1.2.2.2.1 y7 (IntKind.u64.wrap (y4 + y5.tmod (9 : Int)))).2, ()),
                  (x12.2.1.1, x12.2.1.2.1, x12.2.1.2.2.1, x12.2.1.2.2.2.1, ()), (), (), ()))
              fun (x17 : (Bool × Unit) × (Int × Int × Int × List ((Int × Int) × List (Int × Int)) × Unit) × Unit × Unit × Unit) =>
              br x17.1.1
                (br (x12.1.2.1 == !x11.1.1)
                  (br (!x12.1.2.1)
                    (bd
                      (grd (stoOk (x17.2.1.1, x17.2.1.2.1, x17.2.1.2.2.1, x17.2.1.2.2.2.1, ()) && (lenOk ([] : List (Int × Int × Int)) && rightsS []))
                        ((!(clashP x17.2.1.2.2.2.1 [] y4).2, ()), (x17.2.1.1, x17.2.1.2.1, x17.2.1.2.2.1, x17.2.1.2.2.2.1, ()),
                          (), (), ()))
                      fun (x18 : (Bool × Unit) × (Int × Int × Int × List ((Int × Int) × List (Int × Int)) × Unit) × Unit × Unit × Unit) =>
                      some ((x18.1.1, ()), (), (), (), (), ()))
                    (bd (grd (lenOk y7) ((hasS y7 (x12.1.1.1, x12.1.1.2), ()), (), (), ()))
                      fun (x19 : (Bool × Unit) × Unit × Unit × Unit) =>
                      br x19.1.1
                        (bd
                          (grd (stoOk (x17.2.1.1, x17.2.1.2.1, x17.2.1.2.2.1, x17.2.1.2.2.2.1, ()))
                            ((newS (chnOf x17.2.1.2.2.2.1 (x12.1.1.1, x12.1.1.2)), ()),
                              (x17.2.1.1, x17.2.1.2.1, x17.2.1.2.2.1, x17.2.1.2.2.2.1, ()), (), ()))
                          fun (x20 : (Int × Unit) × (Int × Int × Int × List ((Int × Int) × List (Int × Int)) × Unit) × Unit × Unit) =>
                          br (decide (x20.1.1 > y4))
                            (bd
                              (grd (stoOk (x20.2.1.1, x20.2.1.2.1, x20.2.1.2.2.1, x20.2.1.2.2.2.1, ()) && (lenOk ([] : List (Int × Int × Int)) && rightsS []))
                                ((!(clashP x20.2.1.2.2.2.1 [] y4).2, ()),
                                  (x20.2.1.1, x20.2.1.2.1, x20.2.1.2.2.1, x20.2.1.2.2.2.1, ()), (), (), ()))
                              fun
                                (x21 : (Bool × Unit) × (Int × Int × Int × List ((Int × Int) × List (Int × Int)) × Unit) × Unit × Unit × Unit) =>
                              some ((x21.1.1, ()), (), (), (), (), ()))
                            (some ((false, ()), (), (), (), (), ())))
                        (some ((false, ()), (), (), (), (), ()))))
                  (some ((false, ()), (), (), (), (), ())))
                (some ((false, ()), (), (), (), (), ())))
            none))
        (some ((false, ()), (), (), (), (), ())))
def lValidParts_P (K : Nat) (a0 : List Int) (a1 : List Int) (a2 : Int) (a3 : Int) : Option ((Bool × Unit) × Unit × Unit × Unit × Unit × Unit) :=
  br (decide ((↑a0.length : Int) > (40 : Int))) (some ((true, ()), (), (), (), (), ()))
  (br (!true) (some ((true, ()), (), (), (), (), ()))
    (bd (grd (lenOk a0) (((storesS a0).1, (storesS a0).2, ()), (), ()))
      fun
        (x1 :
          ((Int × Int × Int × List ((Int × Int) × List (Int × Int)) × Unit) × (Int × Int × List ((Int × Int) × List (Int × Int)) × Unit) × Unit) ×
            Unit × Unit) =>
      br (!false)
        (loopN lValidParts_L1 K
          (a2.tmod (16 : Int), a3, (x1.1.1.1, x1.1.1.2.1, x1.1.1.2.2.1, x1.1.1.2.2.2.1, ()), spansS a1, true, (0 : Int), ()))
        none))
theorem lValidParts_rn (K : Nat) (a0 : List
  Int) (a1 : List
  Int) (a2 : Int) (a3 : Int) : runF (cfgW g_lValidParts) K f_lValidParts lValidParts_tm [.val (.slice tI), .val (.slice tI), .val tU, .val tU] [.val .bool] (a0, a1, a2, a3, ()) = lValidParts_P K a0 a1 a2 a3 := by kernel_rfl
abbrev g_lValidWrites : List (Nat × Ctr O0) := [(n_awake20, c_awake20), (n_stores, c_stores), (n_stLast, c_stLast), (n_span, c_span), (n_fresh, c_fresh), (n_cells, c_cells), (n_stInstall, c_stInstall), (n_rhas, c_rhas)]
def lValidWrites_tm : List Tm := [[((7 : Nat), none,
      ((Sh.val (Ty.int IntKind.u64)).cons
          ((Sh.val (Ty.int IntKind.i64)).cons
            ((Sh.val (Ty.int IntKind.i64)).cons
              ((Sh.map (MapK.mapS ((Ty.int IntKind.i64).pair (Ty.int IntKind.i64)) ((Ty.int IntKind.u64).pair (Ty.int IntKind.u16)))).cons
                Sh.unit)))).ptr),
    ((9 : Nat), none, Sh.val (Ty.int IntKind.u64)),
    ((10 : Nat), none, Sh.own ((Ty.int IntKind.i64).pair ((Ty.int IntKind.i64).pair (Ty.int IntKind.i64)))),
    ((11 : Nat), none, Sh.own (((Ty.int IntKind.i64).pair (Ty.int IntKind.i64)).pair (Ty.int IntKind.u16))), ((14 : Nat), none, Sh.val Ty.bool),
    ((15 : Nat), none, Sh.val (Ty.int IntKind.i64))]]
def lValidWrites_L1 (rec4 : (Int × Int × Int × List ((Int × Int) × List (Int × Int)) × Unit) ×
    Int × List (Int × Int × Int) × List ((Int × Int) × Int) × Bool × Int × Unit →
  Option
    ((Bool × Unit) ×
      Unit ×
        Unit ×
          Unit ×
            Unit)) : (Int × Int × Int × List ((Int × Int) × List (Int × Int)) × Unit) ×
    Int × List (Int × Int × Int) × List ((Int × Int) × Int) × Bool × Int × Unit →
  Option ((Bool × Unit) × Unit × Unit × Unit × Unit) := fun (y6, y7, y8, y9, y10, y11, ()) =>
  br (decide (y11 < (↑y9.length : Int)))
  (br y10 (rec4 ((y6.1, y6.2.1, y6.2.2.1, y6.2.2.2.1, ()), y7, y8, y9, true, IntKind.i64.wrap (y11 + (1 : Int)), ()))
    (br (decide ((0 : Int) ≤ y11))
      (br (decide (y11 < (↑y9.length : Int)))
        (bd
          (grd (lenOk y8)
            ((hasS y8 ((y9.getD y11.toNat (((0 : Int), (0 : Int)), (0 : Int))).1.1, (y9.getD y11.toNat (((0 : Int), (0 : Int)), (0 : Int))).1.2),
                ()),
              (), (), ()))
          fun (x12 : (Bool × Unit) × Unit × Unit × Unit) =>
          rec4 ((y6.1, y6.2.1, y6.2.2.1, y6.2.2.2.1, ()), y7, y8, y9, x12.1.1, IntKind.i64.wrap (y11 + (1 : Int)), ()))
        none)
      none))
  (bd
    (grd (stoOk (y6.1, y6.2.1, y6.2.2.1, y6.2.2.2.1, ()) && (lenOk y8 && rightsS y8))
      ((!(clashP y6.2.2.2.1 y8 y7).2, ()), (y6.1, y6.2.1, y6.2.2.1, y6.2.2.2.1, ()), (), (), ()))
    fun (x13 : (Bool × Unit) × (Int × Int × Int × List ((Int × Int) × List (Int × Int)) × Unit) × Unit × Unit × Unit) =>
    br (x13.1.1 == !y10)
      (bd
        (grd (stoOk (x13.2.1.1, x13.2.1.2.1, x13.2.1.2.2.1, x13.2.1.2.2.2.1, ()) && (lenOk y8 && rightsS y8))
          ((!(clashP x13.2.1.2.2.2.1 y8 x13.2.1.1).2, ()), (x13.2.1.1, x13.2.1.2.1, x13.2.1.2.2.1, x13.2.1.2.2.2.1, ()), (),
            (), ()))
        fun (x14 : (Bool × Unit) × (Int × Int × Int × List ((Int × Int) × List (Int × Int)) × Unit) × Unit × Unit × Unit) =>
        some ((x14.1.1, ()), (), (), (), ()))
      (some ((false, ()), (), (), (), ())))
def lValidWrites_P (K : Nat) (a0 : List Int) (a1 : List Int) (a2 : Int) : Option ((Bool × Unit) × Unit × Unit × Unit × Unit) :=
  br (decide ((↑a0.length : Int) > (40 : Int))) (some ((true, ()), (), (), (), ()))
  (br (decide ((↑a1.length : Int) < (1 : Int))) (some ((true, ()), (), (), (), ()))
    (br (decide ((↑a1.length : Int) > (12 : Int))) (some ((true, ()), (), (), (), ()))
      (br (!true) (some ((true, ()), (), (), (), ()))
        (bd (grd (lenOk a0) (((storesS a0).1, (storesS a0).2, ()), (), ()))
          fun
            (x1 :
              ((Int × Int × Int × List ((Int × Int) × List (Int × Int)) × Unit) ×
                  (Int × Int × List ((Int × Int) × List (Int × Int)) × Unit) × Unit) ×
                Unit × Unit) =>
          bd
            (grd
              (stoOk (x1.1.1.1, x1.1.1.2.1, x1.1.1.2.2.1, x1.1.1.2.2.2.1, ()) &&
                (lenOk [((spanS a2).1, (spanS a2).2.1, (spanS a2).2.2)] && rightsS [((spanS a2).1, (spanS a2).2.1, (spanS a2).2.2)]))
              ((!(clashP x1.1.1.2.2.2.1 [((spanS a2).1, (spanS a2).2.1, (spanS a2).2.2)] x1.1.1.1).2, ()),
                (x1.1.1.1, x1.1.1.2.1, x1.1.1.2.2.1, x1.1.1.2.2.2.1, ()), (), (), ()))
            fun (x2 : (Bool × Unit) × (Int × Int × Int × List ((Int × Int) × List (Int × Int)) × Unit) × Unit × Unit × Unit) =>
            br (!x2.1.1) (some ((false, ()), (), (), (), ()))
              (bd
                (grd (stoOk (x2.2.1.1, x2.2.1.2.1, x2.2.1.2.2.1, x2.2.1.2.2.2.1, ()) && lenOk (cellsS a1))
                  (((instS (x2.2.1.1, x2.2.1.2.1, x2.2.1.2.2.1, x2.2.1.2.2.2.1, ()) (cellsS a1)).1.1,
                      (instS (x2.2.1.1, x2.2.1.2.1, x2.2.1.2.2.1, x2.2.1.2.2.2.1, ()) (cellsS a1)).1.2, ()),
                    (instS (x2.2.1.1, x2.2.1.2.1, x2.2.1.2.2.1, x2.2.1.2.2.2.1, ()) (cellsS a1)).2, (), ()))
                fun (x3 : (Int × Int × Unit) × (Int × Int × Int × List ((Int × Int) × List (Int × Int)) × Unit) × Unit × Unit) =>
                br (x3.1.2.1 != (0 : Int)) (some ((false, ()), (), (), (), ()))
                  (loopN lValidWrites_L1 K
                    ((x3.2.1.1, x3.2.1.2.1, x3.2.1.2.2.1, x3.2.1.2.2.2.1, ()), x1.1.1.1, [((spanS a2).1, (spanS a2).2.1, (spanS a2).2.2)],
                      cellsS a1, false, (0 : Int), ())))))))
theorem lValidWrites_rn (K : Nat) (a0 : List
  Int) (a1 : List
  Int) (a2 : Int) : runF (cfgW g_lValidWrites) K f_lValidWrites lValidWrites_tm [.val (.slice tI), .val (.slice tI), .val tI] [.val .bool] (a0, a1, a2, ()) = lValidWrites_P K a0 a1 a2 := by kernel_rfl
abbrev g_awake20 : List (Nat × Ctr O0) := [(n_stNew, c_stNew), (n_stInstall, c_stInstall), (n_clash, c_clash), (n_fresh, c_fresh)]
theorem awake20_rn : runF (cfgW g_awake20) 3 f_awake20 [] [] [.val .bool] () = some ((true, ()), ()) := by kernel_rfl
end
end Go.BB
