/- A symbolic machine for the model's code, and what it shows of this seat's functions. No conditions. -/
import Derived.Test.YtnofmeckcimodaaCN
import Derived.Test.YtnofmeckcimodaaCSFile
import Derived.Test.YtnofmeckcimodaaCSStore
set_option linter.unusedSimpArgs false
set_option linter.unusedVariables false
namespace Go.BB
open Go Go.Proofs
set_option maxRecDepth 100000
set_option exponentiation.threshold 100000
noncomputable section
abbrev g_late : List (Nat × Ctr O0) := []
def late_tm : List Tm := []
def late_P (K : Nat) (a0 : Bool ×
  Int ×
    List
        ((Int × Int × Int × Int × Int × Int × List Bool × List Int × Int × Int × Int × Int) ×
          Int × Int × List Bool × List Int × Int × Int × Int × Int × Int × Int × Int × Bool × Int × List (Int × ByteArray)) ×
      List ((Int × Int) × Int)) : Option ((Int × Unit) × Unit × Unit) :=
  br a0.1 (some (((0 : Int), ()), (), ())) (some (((1 : Int), ()), (), ()))
theorem late_rn (K : Nat) (a0 : Bool ×
  Int ×
    List
        ((Int × Int × Int × Int × Int × Int × List Bool × List Int × Int × Int × Int × Int) ×
          Int × Int × List Bool × List Int × Int × Int × Int × Int × Int × Int × Int × Bool × Int × List (Int × ByteArray)) ×
      List ((Int × Int) × Int)) : runF (cfgW g_late) K f_late late_tm [.val tDeed] [.val tI] (a0, ()) = late_P K a0 := by kernel_rfl
abbrev g_isNaNU : List (Nat × Ctr O0) := []
def isNaNU_tm : List Tm := []
def isNaNU_P (K : Nat) (a0 : Int) : Option ((Bool × Unit) × Unit × Unit) :=
  some ((a0 != a0, ()), (), ())
theorem isNaNU_rn (K : Nat) (a0 : Int) : runF (cfgW g_isNaNU) K f_isNaNU isNaNU_tm [.val tU] [.val .bool] (a0, ()) = isNaNU_P K a0 := by kernel_rfl
abbrev g_isNaNI : List (Nat × Ctr O0) := []
def isNaNI_tm : List Tm := []
def isNaNI_P (K : Nat) (a0 : Int) : Option ((Bool × Unit) × Unit × Unit) :=
  some ((a0 != a0, ()), (), ())
theorem isNaNI_rn (K : Nat) (a0 : Int) : runF (cfgW g_isNaNI) K f_isNaNI isNaNI_tm [.val tI] [.val .bool] (a0, ()) = isNaNI_P K a0 := by kernel_rfl
abbrev g_cmpU : List (Nat × Ctr O0) := [(n_isNaNU, c_isNaNU)]
def cmpU_tm : List Tm := []
def cmpU_P (K : Nat) (a0 : Int) (a1 : Int) : Option ((Int × Unit) × Unit × Unit × Unit) :=
  br (decide (a0 < a1)) (some (((-1 : Int), ()), (), (), ()))
  (br (decide (a0 > a1)) (some (((1 : Int), ()), (), (), ()))
    (some (((0 : Int), ()), (), (), ())))
theorem cmpU_rn (K : Nat) (a0 : Int) (a1 : Int) : runF (cfgW g_cmpU) K f_cmpU cmpU_tm [.val tU, .val tU] [.val tI] (a0, a1, ()) = cmpU_P K a0 a1 := by kernel_rfl
abbrev g_cmpI : List (Nat × Ctr O0) := [(n_isNaNI, c_isNaNI)]
def cmpI_tm : List Tm := []
def cmpI_P (K : Nat) (a0 : Int) (a1 : Int) : Option ((Int × Unit) × Unit × Unit × Unit) :=
  br (decide (a0 < a1)) (some (((-1 : Int), ()), (), (), ()))
  (br (decide (a0 > a1)) (some (((1 : Int), ()), (), (), ()))
    (some (((0 : Int), ()), (), (), ())))
theorem cmpI_rn (K : Nat) (a0 : Int) (a1 : Int) : runF (cfgW g_cmpI) K f_cmpI cmpI_tm [.val tI, .val tI] [.val tI] (a0, a1, ()) = cmpI_P K a0 a1 := by kernel_rfl
abbrev g_cmpOr : List (Nat × Ctr O0) := []
def cmpOr_tm : List Tm := [[((3 : Nat), none, Sh.val (Ty.int IntKind.i64)), ((6 : Nat), none, Sh.val (Ty.int IntKind.i64).slice),
    ((7 : Nat), none, Sh.val (Ty.int IntKind.i64)), ((8 : Nat), none, Sh.val (Ty.int IntKind.i64))]]
def cmpOr_L1 (rec1 : Int × List Int × Int × Int × Unit →
  Option ((Int × Unit) × Unit × Unit)) : Int × List Int × Int × Int × Unit → Option ((Int × Unit) × Unit × Unit) := fun (y3, y4, y5, y6, ()) =>
  br (decide (y6 < y5))
  (br (decide ((0 : Int) ≤ y6))
    (br (decide (y6 < (↑y4.length : Int)))
      (br (y4.getD y6.toNat (0 : Int) != y3) (some ((y4.getD y6.toNat (0 : Int), ()), (), ()))
        (rec1 (y3, y4, y5, IntKind.i64.wrap (y6 + (1 : Int)), ())))
      none)
    none)
  (some ((y3, ()), (), ()))
def cmpOr_P (K : Nat) (a0 : List Int) : Option ((Int × Unit) × Unit × Unit) :=
  loopN cmpOr_L1 K ((0 : Int), a0, (↑a0.length : Int), (0 : Int), ())
theorem cmpOr_rn (K : Nat) (a0 : List
  Int) : runF (cfgW g_cmpOr) K f_cmpOr cmpOr_tm [.val (.slice tI)] [.val tI] (a0, ()) = cmpOr_P K a0 := by kernel_rfl
abbrev g_ordLess : List (Nat × Ctr O0) := [(n_cmpU, c_cmpU), (n_cmpI, c_cmpI), (n_cmpOr, c_cmpOr), (n_late, c_late)]
def ordLess_tm : List Tm := []
def ordLess_P (K : Nat) (a0 : Bool ×
  Int ×
    List
        ((Int × Int × Int × Int × Int × Int × List Bool × List Int × Int × Int × Int × Int) ×
          Int × Int × List Bool × List Int × Int × Int × Int × Int × Int × Int × Int × Bool × Int × List (Int × ByteArray)) ×
      List
        ((Int × Int) ×
          Int)) (a1 : Bool ×
  Int ×
    List
        ((Int × Int × Int × Int × Int × Int × List Bool × List Int × Int × Int × Int × Int) ×
          Int × Int × List Bool × List Int × Int × Int × Int × Int × Int × Int × Int × Bool × Int × List (Int × ByteArray)) ×
      List ((Int × Int) × Int)) : Option ((Int × Unit) × Unit × Unit × Unit) :=
  bd
  (grd (lenOk [cmp3 a0.2.1 a1.2.1, cmp3 (lateS (a0.1, a0.2.1, a0.2.2.1, a0.2.2.2)) (lateS (a1.1, a1.2.1, a1.2.2.1, a1.2.2.2))])
    ((firstNZ [cmp3 a0.2.1 a1.2.1, cmp3 (lateS (a0.1, a0.2.1, a0.2.2.1, a0.2.2.2)) (lateS (a1.1, a1.2.1, a1.2.2.1, a1.2.2.2))], ()),
      (), ()))
  fun (x1 : (Int × Unit) × Unit × Unit) => some ((x1.1.1, ()), (), (), ())
theorem ordLess_rn (K : Nat) (a0 : Bool ×
  Int ×
    List
        ((Int × Int × Int × Int × Int × Int × List Bool × List Int × Int × Int × Int × Int) ×
          Int × Int × List Bool × List Int × Int × Int × Int × Int × Int × Int × Int × Bool × Int × List (Int × ByteArray)) ×
      List
        ((Int × Int) ×
          Int)) (a1 : Bool ×
  Int ×
    List
        ((Int × Int × Int × Int × Int × Int × List Bool × List Int × Int × Int × Int × Int) ×
          Int × Int × List Bool × List Int × Int × Int × Int × Int × Int × Int × Int × Bool × Int × List (Int × ByteArray)) ×
      List
        ((Int × Int) ×
          Int)) : runF (cfgW g_ordLess) K f_ordLess ordLess_tm [.val tDeed, .val tDeed] [.val tI] (a0, a1, ()) = ordLess_P K a0 a1 := by kernel_rfl
abbrev g_cloneSteps : List (Nat × Ctr O0) := []
def cloneSteps_tm : List Tm := []
def cloneSteps_P (K : Nat) (a0 : List
  ((Int × Int × Int × Int × Int × Int × List Bool × List Int × Int × Int × Int × Int) ×
    Int ×
      Int ×
        List Bool ×
          List Int ×
            Int ×
              Int ×
                Int ×
                  Int ×
                    Int ×
                      Int ×
                        Int ×
                          Bool ×
                            Int ×
                              List
                                (Int ×
                                  ByteArray))) : Option
  ((List
        ((Int × Int × Int × Int × Int × Int × List Bool × List Int × Int × Int × Int × Int) ×
          Int × Int × List Bool × List Int × Int × Int × Int × Int × Int × Int × Int × Bool × Int × List (Int × ByteArray)) ×
      Unit) ×
    Unit × Unit) :=
  mayB a0.isEmpty (some (([], ()), (), ()))
  (br (decide (((0 : Nat) + a0.length) * (256 : Nat) ≤ LIM))
    (br (decide ((0 : Nat) + a0.length ≤ LIM)) (some ((cat [] a0, ()), (), ())) none) none)
theorem cloneSteps_rn (K : Nat) (a0 : List
  ((Int × Int × Int × Int × Int × Int × List Bool × List Int × Int × Int × Int × Int) ×
    Int ×
      Int ×
        List Bool ×
          List Int ×
            Int ×
              Int ×
                Int ×
                  Int ×
                    Int ×
                      Int ×
                        Int ×
                          Bool ×
                            Int ×
                              List
                                (Int ×
                                  ByteArray))) : runF (cfgW g_cloneSteps) K f_cloneSteps cloneSteps_tm [.val (.slice tStep)] [.own tStep] (a0, ()) = cloneSteps_P K a0 := by kernel_rfl
abbrev g_cloneObjs : List (Nat × Ctr O0) := []
def cloneObjs_tm : List Tm := []
def cloneObjs_P (K : Nat) (a0 : List (Int × ByteArray)) : Option ((List (Int × ByteArray) × Unit) × Unit × Unit) :=
  mayB a0.isEmpty (some (([], ()), (), ()))
  (br (decide (((0 : Nat) + a0.length) * (24 : Nat) ≤ LIM))
    (br (decide ((0 : Nat) + a0.length ≤ LIM)) (some ((cat [] a0, ()), (), ())) none) none)
theorem cloneObjs_rn (K : Nat) (a0 : List
  (Int ×
    ByteArray)) : runF (cfgW g_cloneObjs) K f_cloneObjs cloneObjs_tm [.val (.slice tObj)] [.own tObj] (a0, ()) = cloneObjs_P K a0 := by kernel_rfl
abbrev g_own : List (Nat × Ctr O0) := [(n_cloneCells, c_cloneCells), (n_cloneSteps, c_cloneSteps), (n_cloneBits, c_cloneBits), (n_cloneWords, c_cloneWords), (n_cloneObjs, c_cloneObjs)]
def own_tm : List Tm := [[((1 : Nat), none,
      ((Sh.val Ty.bool).cons
          ((Sh.val (Ty.int IntKind.u64)).cons
            ((Sh.own
                  (((Ty.int IntKind.i64).pair
                        ((Ty.int IntKind.i64).pair
                          ((Ty.int IntKind.i64).pair
                            ((Ty.int IntKind.u16).pair
                              ((Ty.int IntKind.u16).pair
                                ((Ty.int IntKind.u16).pair
                                  (Ty.bool.slice.pair
                                    ((Ty.int IntKind.u16).slice.pair
                                      ((Ty.int IntKind.i64).pair
                                        ((Ty.int IntKind.i64).pair ((Ty.int IntKind.i64).pair (Ty.int IntKind.i64)))))))))))).pair
                    ((Ty.int IntKind.i64).pair
                      ((Ty.int IntKind.i64).pair
                        (Ty.bool.slice.pair
                          ((Ty.int IntKind.u16).slice.pair
                            ((Ty.int IntKind.i64).pair
                              ((Ty.int IntKind.i64).pair
                                ((Ty.int IntKind.u16).pair
                                  ((Ty.int IntKind.u16).pair
                                    ((Ty.int IntKind.u16).pair
                                      ((Ty.int IntKind.i64).pair
                                        ((Ty.int IntKind.i64).pair
                                          (Ty.bool.pair ((Ty.int IntKind.i64).pair ((Ty.int IntKind.i64).pair Ty.str).slice))))))))))))))).cons
              ((Sh.own (((Ty.int IntKind.i64).pair (Ty.int IntKind.i64)).pair (Ty.int IntKind.u16))).cons Sh.unit)))).ptr),
    ((2 : Nat), none, ((Sh.val Ty.bool).cons ((Sh.val (Ty.int IntKind.u64)).cons (Sh.nil.cons (Sh.nil.cons Sh.unit)))).ptr),
    ((16 : Nat), none, Sh.val (Ty.int IntKind.i64)), ((17 : Nat), none, Sh.val (Ty.int IntKind.i64))]]
def own_L1 (rec3 : (Bool ×
      Int ×
        List
            ((Int × Int × Int × Int × Int × Int × List Bool × List Int × Int × Int × Int × Int) ×
              Int × Int × List Bool × List Int × Int × Int × Int × Int × Int × Int × Int × Bool × Int × List (Int × ByteArray)) ×
          List ((Int × Int) × Int) × Unit) ×
    (Bool × Int × Unit × Unit × Unit) × Int × Int × Unit →
  Option
    (((Bool ×
          Int ×
            List
                ((Int × Int × Int × Int × Int × Int × List Bool × List Int × Int × Int × Int × Int) ×
                  Int × Int × List Bool × List Int × Int × Int × Int × Int × Int × Int × Int × Bool × Int × List (Int × ByteArray)) ×
              List ((Int × Int) × Int)) ×
        Unit) ×
      Unit ×
        Unit)) : (Bool ×
      Int ×
        List
            ((Int × Int × Int × Int × Int × Int × List Bool × List Int × Int × Int × Int × Int) ×
              Int × Int × List Bool × List Int × Int × Int × Int × Int × Int × Int × Int × Bool × Int × List (Int × ByteArray)) ×
          List ((Int × Int) × Int) × Unit) ×
    (Bool × Int × Unit × Unit × Unit) × Int × Int × Unit →
  Option
    (((Bool ×
          Int ×
            List
                ((Int × Int × Int × Int × Int × Int × List Bool × List Int × Int × Int × Int × Int) ×
                  Int × Int × List Bool × List Int × Int × Int × Int × Int × Int × Int × Int × Bool × Int × List (Int × ByteArray)) ×
              List ((Int × Int) × Int)) ×
        Unit) ×
      Unit × Unit) := fun (y5, y6, y7, y8, ()) =>
  br (decide (y8 < y7))
  (br (decide ((0 : Int) ≤ y8))
    (br (decide (y8 < (↑y5.2.2.1.length : Int)))
      (br (decide ((0 : Int) ≤ y8))
        (br (decide (y8 < (↑y5.2.2.1.length : Int)))
          (bd
            (grd
              (decide
                (List.length
                    (y5.2.2.1.getD y8.toNat
                                      (((0 : Int), (0 : Int), (0 : Int), (0 : Int), (0 : Int), (0 : Int), [], [], (0 : Int), (0 : Int), (0 : Int),
                                          (0 : Int)),
                                        (0 : Int), (0 : Int), [], [], (0 : Int), (0 : Int), (0 : Int), (0 : Int), (0 : Int), (0 : Int), (0 : Int),
                                        false, (0 : Int), [])).1.2.2.2.2.2.2.1 <
                  (1000000 : Nat)))
              (((y5.2.2.1.getD y8.toNat
                                    (((0 : Int), (0 : Int), (0 : Int), (0 : Int), (0 : Int), (0 : Int), [], [], (0 : Int), (0 : Int), (0 : Int),
                                        (0 : Int)),
                                      (0 : Int), (0 : Int), [], [], (0 : Int), (0 : Int), (0 : Int), (0 : Int), (0 : Int), (0 : Int), (0 : Int),
                                      false, (0 : Int), [])).1.2.2.2.2.2.2.1,
                  ()),
                (), ()))
            fun (x9 : (List Bool × Unit) × Unit × Unit) =>
            bd
              (grd
                (decide
                  (List.length
                      (y5.2.2.1.getD y8.toNat
                                          (((0 : Int), (0 : Int), (0 : Int), (0 : Int), (0 : Int), (0 : Int), [], [], (0 : Int), (0 : Int), (0 : Int),
                                              (0 : Int)),
                                            (0 : Int), (0 : Int), [], [], (0 : Int), (0 : Int), (0 : Int), (0 : Int), (0 : Int), (0 : Int), (0 : Int),
                                            false, (0 : Int), [])).1.2.2.2.2.2.2.2.1 <
                    (1000000 : Nat)))
                (((y5.2.2.1.getD y8.toNat
                                        (((0 : Int), (0 : Int), (0 : Int), (0 : Int), (0 : Int), (0 : Int), [], [], (0 : Int), (0 : Int), (0 : Int),
                                            (0 : Int)),
                                          (0 : Int), (0 : Int), [], [], (0 : Int), (0 : Int), (0 : Int), (0 : Int), (0 : Int), (0 : Int), (0 : Int),
                                          false, (0 : Int), [])).1.2.2.2.2.2.2.2.1,
                    ()),
                  (), ()))
              fun (x10 : (List Int × Unit) × Unit × Unit) =>
              bd
                (grd
                  (decide
                    (List.length
                        (((y5.2.2.1.set y8.toNat
                                          (putD
                                            (((Ty.int IntKind.i64).pair
                                                  ((Ty.int IntKind.i64).pair
                                                    ((Ty.int IntKind.i64).pair
                                                      ((Ty.int IntKind.u16).pair
                                                        ((Ty.int IntKind.u16).pair
                                                          ((Ty.int IntKind.u16).pair
                                                            (Ty.bool.slice.pair
                                                              ((Ty.int IntKind.u16).slice.pair
                                                                ((Ty.int IntKind.i64).pair
                                                                  ((Ty.int IntKind.i64).pair
                                                                    ((Ty.int IntKind.i64).pair (Ty.int IntKind.i64)))))))))))).pair
                                              ((Ty.int IntKind.i64).pair
                                                ((Ty.int IntKind.i64).pair
                                                  (Ty.bool.slice.pair
                                                    ((Ty.int IntKind.u16).slice.pair
                                                      ((Ty.int IntKind.i64).pair
                                                        ((Ty.int IntKind.i64).pair
                                                          ((Ty.int IntKind.u16).pair
                                                            ((Ty.int IntKind.u16).pair
                                                              ((Ty.int IntKind.u16).pair
                                                                ((Ty.int IntKind.i64).pair
                                                                  ((Ty.int IntKind.i64).pair
                                                                    (Ty.bool.pair
                                                                      ((Ty.int IntKind.i64).pair
                                                                        ((Ty.int IntKind.i64).pair Ty.str).slice))))))))))))))
                                            (y5.2.2.1.getD y8.toNat
                                              (((0 : Int), (0 : Int), (0 : Int), (0 : Int), (0 : Int), (0 : Int), [], [], (0 : Int), (0 : Int),
                                                  (0 : Int), (0 : Int)),
                                                (0 : Int), (0 : Int), [], [], (0 : Int), (0 : Int), (0 : Int), (0 : Int), (0 : Int), (0 : Int),
                                                (0 : Int), false, (0 : Int), []))
                                            (6 : Nat) Ty.bool.slice x9.1.1)).set
                                      y8.toNat
                                      (putD
                                        (((Ty.int IntKind.i64).pair
                                              ((Ty.int IntKind.i64).pair
                                                ((Ty.int IntKind.i64).pair
                                                  ((Ty.int IntKind.u16).pair
                                                    ((Ty.int IntKind.u16).pair
                                                      ((Ty.int IntKind.u16).pair
                                                        (Ty.bool.slice.pair
                                                          ((Ty.int IntKind.u16).slice.pair
                                                            ((Ty.int IntKind.i64).pair
                                                              ((Ty.int IntKind.i64).pair
                                                                ((Ty.int IntKind.i64).pair (Ty.int IntKind.i64)))))))))))).pair
                                          ((Ty.int IntKind.i64).pair
                                            ((Ty.int IntKind.i64).pair
                                              (Ty.bool.slice.pair
                                                ((Ty.int IntKind.u16).slice.pair
                                                  ((Ty.int IntKind.i64).pair
                                                    ((Ty.int IntKind.i64).pair
                                                      ((Ty.int IntKind.u16).pair
                                                        ((Ty.int IntKind.u16).pair
                                                          ((Ty.int IntKind.u16).pair
                                                            ((Ty.int IntKind.i64).pair
                                                              ((Ty.int IntKind.i64).pair
                                                                (Ty.bool.pair
                                                                  ((Ty.int IntKind.i64).pair ((Ty.int IntKind.i64).pair Ty.str).slice))))))))))))))
                                        ((y5.2.2.1.set y8.toNat
                                              (putD
                                                (((Ty.int IntKind.i64).pair
                                                      ((Ty.int IntKind.i64).pair
                                                        ((Ty.int IntKind.i64).pair
                                                          ((Ty.int IntKind.u16).pair
                                                            ((Ty.int IntKind.u16).pair
                                                              ((Ty.int IntKind.u16).pair
                                                                (Ty.bool.slice.pair
                                                                  ((Ty.int IntKind.u16).slice.pair
                                                                    ((Ty.int IntKind.i64).pair
                                                                      ((Ty.int IntKind.i64).pair
                                                                        ((Ty.int IntKind.i64).pair (Ty.int IntKind.i64)))))))))))).pair
                                                  ((Ty.int IntKind.i64).pair
                                                    ((Ty.int IntKind.i64).pair
                                                      (Ty.bool.slice.pair
                                                        ((Ty.int IntKind.u16).slice.pair
                                                          ((Ty.int IntKind.i64).pair
                                                            ((Ty.int IntKind.i64).pair
                                                              ((Ty.int IntKind.u16).pair
                                                                ((Ty.int IntKind.u16).pair
                                                                  ((Ty.int IntKind.u16).pair
                                                                    ((Ty.int IntKind.i64).pair
                                                                      ((Ty.int IntKind.i64).pair
                                                                        (Ty.bool.pair
                                                                          ((Ty.int IntKind.i64).pair
                                                                            ((Ty.int IntKind.i64).pair Ty.str).slice))))))))))))))
                                                (y5.2.2.1.getD y8.toNat
                                                  (((0 : Int), (0 : Int), (0 : Int), (0 : Int), (0 : Int), (0 : Int), [], [], (0 : Int), (0 : Int),
                                                      (0 : Int), (0 : Int)),
                                                    (0 : Int), (0 : Int), [], [], (0 : Int), (0 : Int), (0 : Int), (0 : Int), (0 : Int), (0 : Int),
                                                    (0 : Int), false, (0 : Int), []))
                                                (6 : Nat) Ty.bool.slice x9.1.1)).getD
                                          y8.toNat
                                          (((0 : Int), (0 : Int), (0 : Int), (0 : Int), (0 : Int), (0 : Int), [], [], (0 : Int), (0 : Int), (0 : Int),
                                              (0 : Int)),
                                            (0 : Int), (0 : Int), [], [], (0 : Int), (0 : Int), (0 : Int), (0 : Int), (0 : Int), (0 : Int), (0 : Int),
                                            false, (0 : Int), []))
                                        (7 : Nat) (Ty.int IntKind.u16).slice x10.1.1)).getD
                                  y8.toNat
                                  (((0 : Int), (0 : Int), (0 : Int), (0 : Int), (0 : Int), (0 : Int), [], [], (0 : Int), (0 : Int), (0 : Int),
                                      (0 : Int)),
                                    (0 : Int), (0 : Int), [], [], (0 : Int), (0 : Int), (0 : Int), (0 : Int), (0 : Int), (0 : Int), (0 : Int), false,
                                    (0 : Int), [])).2.2.2.1 <
                      (1000000 : Nat)))
                  (((((y5.2.2.1.set y8.toNat
                                        (putD
                                          (((Ty.int IntKind.i64).pair
                                                ((Ty.int IntKind.i64).pair
                                                  ((Ty.int IntKind.i64).pair
                                                    ((Ty.int IntKind.u16).pair
                                                      ((Ty.int IntKind.u16).pair
                                                        ((Ty.int IntKind.u16).pair
                                                          (Ty.bool.slice.pair
                                                            ((Ty.int IntKind.u16).slice.pair
                                                              ((Ty.int IntKind.i64).pair
                                                                ((Ty.int IntKind.i64).pair
                                                                  ((Ty.int IntKind.i64).pair (Ty.int IntKind.i64)))))))))))).pair
                                            ((Ty.int IntKind.i64).pair
                                              ((Ty.int IntKind.i64).pair
                                                (Ty.bool.slice.pair
                                                  ((Ty.int IntKind.u16).slice.pair
                                                    ((Ty.int IntKind.i64).pair
                                                      ((Ty.int IntKind.i64).pair
                                                        ((Ty.int IntKind.u16).pair
                                                          ((Ty.int IntKind.u16).pair
                                                            ((Ty.int IntKind.u16).pair
                                                              ((Ty.int IntKind.i64).pair
                                                                ((Ty.int IntKind.i64).pair
                                                                  (Ty.bool.pair
                                                                    ((Ty.int IntKind.i64).pair ((Ty.int IntKind.i64).pair Ty.str).slice))))))))))))))
                                          (y5.2.2.1.getD y8.toNat
                                            (((0 : Int), (0 : Int), (0 : Int), (0 : Int), (0 : Int), (0 : Int), [], [], (0 : Int), (0 : Int),
                                                (0 : Int), (0 : Int)),
                                              (0 : Int), (0 : Int), [], [], (0 : Int), (0 : Int), (0 : Int), (0 : Int), (0 : Int), (0 : Int),
                                              (0 : Int), false, (0 : Int), []))
                                          (6 : Nat) Ty.bool.slice x9.1.1)).set
                                    y8.toNat
                                    (putD
                                      (((Ty.int IntKind.i64).pair
                                            ((Ty.int IntKind.i64).pair
                                              ((Ty.int IntKind.i64).pair
                                                ((Ty.int IntKind.u16).pair
                                                  ((Ty.int IntKind.u16).pair
                                                    ((Ty.int IntKind.u16).pair
                                                      (Ty.bool.slice.pair
                                                        ((Ty.int IntKind.u16).slice.pair
                                                          ((Ty.int IntKind.i64).pair
                                                            ((Ty.int IntKind.i64).pair ((Ty.int IntKind.i64).pair (Ty.int IntKind.i64)))))))))))).pair
                                        ((Ty.int IntKind.i64).pair
                                          ((Ty.int IntKind.i64).pair
                                            (Ty.bool.slice.pair
                                              ((Ty.int IntKind.u16).slice.pair
                                                ((Ty.int IntKind.i64).pair
                                                  ((Ty.int IntKind.i64).pair
                                                    ((Ty.int IntKind.u16).pair
                                                      ((Ty.int IntKind.u16).pair
                                                        ((Ty.int IntKind.u16).pair
                                                          ((Ty.int IntKind.i64).pair
                                                            ((Ty.int IntKind.i64).pair
                                                              (Ty.bool.pair
                                                                ((Ty.int IntKind.i64).pair ((Ty.int IntKind.i64).pair Ty.str).slice))))))))))))))
                                      ((y5.2.2.1.set y8.toNat
                                            (putD
                                              (((Ty.int IntKind.i64).pair
                                                    ((Ty.int IntKind.i64).pair
                                                      ((Ty.int IntKind.i64).pair
                                                        ((Ty.int IntKind.u16).pair
                                                          ((Ty.int IntKind.u16).pair
                                                            ((Ty.int IntKind.u16).pair
                                                              (Ty.bool.slice.pair
                                                                ((Ty.int IntKind.u16).slice.pair
                                                                  ((Ty.int IntKind.i64).pair
                                                                    ((Ty.int IntKind.i64).pair
                                                                      ((Ty.int IntKind.i64).pair (Ty.int IntKind.i64)))))))))))).pair
                                                ((Ty.int IntKind.i64).pair
                                                  ((Ty.int IntKind.i64).pair
                                                    (Ty.bool.slice.pair
                                                      ((Ty.int IntKind.u16).slice.pair
                                                        ((Ty.int IntKind.i64).pair
                                                          ((Ty.int IntKind.i64).pair
                                                            ((Ty.int IntKind.u16).pair
                                                              ((Ty.int IntKind.u16).pair
                                                                ((Ty.int IntKind.u16).pair
                                                                  ((Ty.int IntKind.i64).pair
                                                                    ((Ty.int IntKind.i64).pair
                                                                      (Ty.bool.pair
                                                                        ((Ty.int IntKind.i64).pair
                                                                          ((Ty.int IntKind.i64).pair Ty.str).slice))))))))))))))
                                              (y5.2.2.1.getD y8.toNat
                                                (((0 : Int), (0 : Int), (0 : Int), (0 : Int), (0 : Int), (0 : Int), [], [], (0 : Int), (0 : Int),
                                                    (0 : Int), (0 : Int)),
                                                  (0 : Int), (0 : Int), [], [], (0 : Int), (0 : Int), (0 : Int), (0 : Int), (0 : Int), (0 : Int),
                                                  (0 : Int), false, (0 : Int), []))
                                              (6 : Nat) Ty.bool.slice x9.1.1)).getD
                                        y8.toNat
                                        (((0 : Int), (0 : Int), (0 : Int), (0 : Int), (0 : Int), (0 : Int), [], [], (0 : Int), (0 : Int), (0 : Int),
                                            (0 : Int)),
                                          (0 : Int), (0 : Int), [], [], (0 : Int), (0 : Int), (0 : Int), (0 : Int), (0 : Int), (0 : Int), (0 : Int),
                                          false, (0 : Int), []))
                                      (7 : Nat) (Ty.int IntKind.u16).slice x10.1.1)).getD
                                y8.toNat
                                (((0 : Int), (0 : Int), (0 : Int), (0 : Int), (0 : Int), (0 : Int), [], [], (0 : Int), (0 : Int), (0 : Int),
                                    (0 : Int)),
                                  (0 : Int), (0 : Int), [], [], (0 : Int), (0 : Int), (0 : Int), (0 : Int), (0 : Int), (0 : Int), (0 : Int), false,
                                  (0 : Int), [])).2.2.2.1,
                      ()),
                    (), ()))
                fun (x11 : (List Bool × Unit) × Unit × Unit) =>
                bd
                  (grd
                    (decide
                      (List.length
                          (((y5.2.2.1.set y8.toNat
                                              (putD
                                                (((Ty.int IntKind.i64).pair
                                                      ((Ty.int IntKind.i64).pair
                                                        ((Ty.int IntKind.i64).pair
                                                          ((Ty.int IntKind.u16).pair
                                                            ((Ty.int IntKind.u16).pair
                                                              ((Ty.int IntKind.u16).pair
                                                                (Ty.bool.slice.pair
                                                                  ((Ty.int IntKind.u16).slice.pair
                                                                    ((Ty.int IntKind.i64).pair
                                                                      ((Ty.int IntKind.i64).pair
                                                                        ((Ty.int IntKind.i64).pair (Ty.int IntKind.i64)))))))))))).pair
                                                  ((Ty.int IntKind.i64).pair
                                                    ((Ty.int IntKind.i64).pair
                                                      (Ty.bool.slice.pair
                                                        ((Ty.int IntKind.u16).slice.pair
                                                          ((Ty.int IntKind.i64).pair
                                                            ((Ty.int IntKind.i64).pair
                                                              ((Ty.int IntKind.u16).pair
                                                                ((Ty.int IntKind.u16).pair
                                                                  ((Ty.int IntKind.u16).pair
                                                                    ((Ty.int IntKind.i64).pair
                                                                      ((Ty.int IntKind.i64).pair
                                                                        (Ty.bool.pair
                                                                          ((Ty.int IntKind.i64).pair
                                                                            ((Ty.int IntKind.i64).pair Ty.str).slice))))))))))))))
                                                (y5.2.2.1.getD y8.toNat
                                                  (((0 : Int), (0 : Int), (0 : Int), (0 : Int), (0 : Int), (0 : Int), [], [], (0 : Int), (0 : Int),
                                                      (0 : Int), (0 : Int)),
                                                    (0 : Int), (0 : Int), [], [], (0 : Int), (0 : Int), (0 : Int), (0 : Int), (0 : Int), (0 : Int),
                                                    (0 : Int), false, (0 : Int), []))
                                                (6 : Nat) Ty.bool.slice x9.1.1)).set
                                          y8.toNat
                                          (putD
                                            (((Ty.int IntKind.i64).pair
                                                  ((Ty.int IntKind.i64).pair
                                                    ((Ty.int IntKind.i64).pair
                                                      ((Ty.int IntKind.u16).pair
                                                        ((Ty.int IntKind.u16).pair
                                                          ((Ty.int IntKind.u16).pair
                                                            (Ty.bool.slice.pair
                                                              ((Ty.int IntKind.u16).slice.pair
                                                                ((Ty.int IntKind.i64).pair
                                                                  ((Ty.int IntKind.i64).pair
                                                                    ((Ty.int IntKind.i64).pair (Ty.int IntKind.i64)))))))))))).pair
                                              ((Ty.int IntKind.i64).pair
                                                ((Ty.int IntKind.i64).pair
                                                  (Ty.bool.slice.pair
                                                    ((Ty.int IntKind.u16).slice.pair
                                                      ((Ty.int IntKind.i64).pair
                                                        ((Ty.int IntKind.i64).pair
                                                          ((Ty.int IntKind.u16).pair
                                                            ((Ty.int IntKind.u16).pair
                                                              ((Ty.int IntKind.u16).pair
                                                                ((Ty.int IntKind.i64).pair
                                                                  ((Ty.int IntKind.i64).pair
                                                                    (Ty.bool.pair
                                                                      ((Ty.int IntKind.i64).pair
                                                                        ((Ty.int IntKind.i64).pair Ty.str).slice))))))))))))))
                                            ((y5.2.2.1.set y8.toNat
                                                  (putD
                                                    (((Ty.int IntKind.i64).pair
                                                          ((Ty.int IntKind.i64).pair
                                                            ((Ty.int IntKind.i64).pair
                                                              ((Ty.int IntKind.u16).pair
                                                                ((Ty.int IntKind.u16).pair
                                                                  ((Ty.int IntKind.u16).pair
                                                                    (Ty.bool.slice.pair
                                                                      ((Ty.int IntKind.u16).slice.pair
                                                                        ((Ty.int IntKind.i64).pair
                                                                          ((Ty.int IntKind.i64).pair
                                                                            ((Ty.int IntKind.i64).pair (Ty.int IntKind.i64)))))))))))).pair
                                                      ((Ty.int IntKind.i64).pair
                                                        ((Ty.int IntKind.i64).pair
                                                          (Ty.bool.slice.pair
                                                            ((Ty.int IntKind.u16).slice.pair
                                                              ((Ty.int IntKind.i64).pair
                                                                ((Ty.int IntKind.i64).pair
                                                                  ((Ty.int IntKind.u16).pair
                                                                    ((Ty.int IntKind.u16).pair
                                                                      ((Ty.int IntKind.u16).pair
                                                                        ((Ty.int IntKind.i64).pair
                                                                          ((Ty.int IntKind.i64).pair
                                                                            (Ty.bool.pair
                                                                              ((Ty.int IntKind.i64).pair
                                                                                ((Ty.int IntKind.i64).pair Ty.str).slice))))))))))))))
                                                    (y5.2.2.1.getD y8.toNat
                                                      (((0 : Int), (0 : Int), (0 : Int), (0 : Int), (0 : Int), (0 : Int), [], [], (0 : Int),
                                                          (0 : Int), (0 : Int), (0 : Int)),
                                                        (0 : Int), (0 : Int), [], [], (0 : Int), (0 : Int), (0 : Int), (0 : Int), (0 : Int),
                                                        (0 : Int), (0 : Int), false, (0 : Int), []))
                                                    (6 : Nat) Ty.bool.slice x9.1.1)).getD
                                              y8.toNat
                                              (((0 : Int), (0 : Int), (0 : Int), (0 : Int), (0 : Int), (0 : Int), [], [], (0 : Int), (0 : Int),
                                                  (0 : Int), (0 : Int)),
                                                (0 : Int), (0 : Int), [], [], (0 : Int), (0 : Int), (0 : Int), (0 : Int), (0 : Int), (0 : Int),
                                                (0 : Int), false, (0 : Int), []))
                                            (7 : Nat) (Ty.int IntKind.u16).slice x10.1.1)).getD
                                      y8.toNat
                                      (((0 : Int), (0 : Int), (0 : Int), (0 : Int), (0 : Int), (0 : Int), [], [], (0 : Int), (0 : Int), (0 : Int),
                                          (0 : Int)),
                                        (0 : Int), (0 : Int), [], [], (0 : Int), (0 : Int), (0 : Int), (0 : Int), (0 : Int), (0 : Int), (0 : Int),
                                        false, (0 : Int), [])).2.2.2.2.1 <
                        (1000000 : Nat)))
                    (((((y5.2.2.1.set y8.toNat
                                            (putD
                                              (((Ty.int IntKind.i64).pair
                                                    ((Ty.int IntKind.i64).pair
                                                      ((Ty.int IntKind.i64).pair
                                                        ((Ty.int IntKind.u16).pair
                                                          ((Ty.int IntKind.u16).pair
                                                            ((Ty.int IntKind.u16).pair
                                                              (Ty.bool.slice.pair
                                                                ((Ty.int IntKind.u16).slice.pair
                                                                  ((Ty.int IntKind.i64).pair
                                                                    ((Ty.int IntKind.i64).pair
                                                                      ((Ty.int IntKind.i64).pair (Ty.int IntKind.i64)))))))))))).pair
                                                ((Ty.int IntKind.i64).pair
                                                  ((Ty.int IntKind.i64).pair
                                                    (Ty.bool.slice.pair
                                                      ((Ty.int IntKind.u16).slice.pair
                                                        ((Ty.int IntKind.i64).pair
                                                          ((Ty.int IntKind.i64).pair
                                                            ((Ty.int IntKind.u16).pair
                                                              ((Ty.int IntKind.u16).pair
                                                                ((Ty.int IntKind.u16).pair
                                                                  ((Ty.int IntKind.i64).pair
                                                                    ((Ty.int IntKind.i64).pair
                                                                      (Ty.bool.pair
                                                                        ((Ty.int IntKind.i64).pair
                                                                          ((Ty.int IntKind.i64).pair Ty.str).slice))))))))))))))
                                              (y5.2.2.1.getD y8.toNat
                                                (((0 : Int), (0 : Int), (0 : Int), (0 : Int), (0 : Int), (0 : Int), [], [], (0 : Int), (0 : Int),
                                                    (0 : Int), (0 : Int)),
                                                  (0 : Int), (0 : Int), [], [], (0 : Int), (0 : Int), (0 : Int), (0 : Int), (0 : Int), (0 : Int),
                                                  (0 : Int), false, (0 : Int), []))
                                              (6 : Nat) Ty.bool.slice x9.1.1)).set
                                        y8.toNat
                                        (putD
                                          (((Ty.int IntKind.i64).pair
                                                ((Ty.int IntKind.i64).pair
                                                  ((Ty.int IntKind.i64).pair
                                                    ((Ty.int IntKind.u16).pair
                                                      ((Ty.int IntKind.u16).pair
                                                        ((Ty.int IntKind.u16).pair
                                                          (Ty.bool.slice.pair
                                                            ((Ty.int IntKind.u16).slice.pair
                                                              ((Ty.int IntKind.i64).pair
                                                                ((Ty.int IntKind.i64).pair
                                                                  ((Ty.int IntKind.i64).pair (Ty.int IntKind.i64)))))))))))).pair
                                            ((Ty.int IntKind.i64).pair
                                              ((Ty.int IntKind.i64).pair
                                                (Ty.bool.slice.pair
                                                  ((Ty.int IntKind.u16).slice.pair
                                                    ((Ty.int IntKind.i64).pair
                                                      ((Ty.int IntKind.i64).pair
                                                        ((Ty.int IntKind.u16).pair
                                                          ((Ty.int IntKind.u16).pair
                                                            ((Ty.int IntKind.u16).pair
                                                              ((Ty.int IntKind.i64).pair
                                                                ((Ty.int IntKind.i64).pair
                                                                  (Ty.bool.pair
                                                                    ((Ty.int IntKind.i64).pair ((Ty.int IntKind.i64).pair Ty.str).slice))))))))))))))
                                          ((y5.2.2.1.set y8.toNat
                                                (putD
                                                  (((Ty.int IntKind.i64).pair
                                                        ((Ty.int IntKind.i64).pair
                                                          ((Ty.int IntKind.i64).pair
                                                            ((Ty.int IntKind.u16).pair
                                                              ((Ty.int IntKind.u16).pair
                                                                ((Ty.int IntKind.u16).pair
                                                                  (Ty.bool.slice.pair
                                                                    ((Ty.int IntKind.u16).slice.pair
                                                                      ((Ty.int IntKind.i64).pair
                                                                        ((Ty.int IntKind.i64).pair
                                                                          ((Ty.int IntKind.i64).pair (Ty.int IntKind.i64)))))))))))).pair
                                                    ((Ty.int IntKind.i64).pair
                                                      ((Ty.int IntKind.i64).pair
                                                        (Ty.bool.slice.pair
                                                          ((Ty.int IntKind.u16).slice.pair
                                                            ((Ty.int IntKind.i64).pair
                                                              ((Ty.int IntKind.i64).pair
                                                                ((Ty.int IntKind.u16).pair
                                                                  ((Ty.int IntKind.u16).pair
                                                                    ((Ty.int IntKind.u16).pair
                                                                      ((Ty.int IntKind.i64).pair
                                                                        ((Ty.int IntKind.i64).pair
                                                                          (Ty.bool.pair
                                                                            ((Ty.int IntKind.i64).pair
                                                                              ((Ty.int IntKind.i64).pair Ty.str).slice))))))))))))))
                                                  (y5.2.2.1.getD y8.toNat
                                                    (((0 : Int), (0 : Int), (0 : Int), (0 : Int), (0 : Int), (0 : Int), [], [], (0 : Int), (0 : Int),
                                                        (0 : Int), (0 : Int)),
                                                      (0 : Int), (0 : Int), [], [], (0 : Int), (0 : Int), (0 : Int), (0 : Int), (0 : Int), (0 : Int),
                                                      (0 : Int), false, (0 : Int), []))
                                                  (6 : Nat) Ty.bool.slice x9.1.1)).getD
                                            y8.toNat
                                            (((0 : Int), (0 : Int), (0 : Int), (0 : Int), (0 : Int), (0 : Int), [], [], (0 : Int), (0 : Int),
                                                (0 : Int), (0 : Int)),
                                              (0 : Int), (0 : Int), [], [], (0 : Int), (0 : Int), (0 : Int), (0 : Int), (0 : Int), (0 : Int),
                                              (0 : Int), false, (0 : Int), []))
                                          (7 : Nat) (Ty.int IntKind.u16).slice x10.1.1)).getD
                                    y8.toNat
                                    (((0 : Int), (0 : Int), (0 : Int), (0 : Int), (0 : Int), (0 : Int), [], [], (0 : Int), (0 : Int), (0 : Int),
                                        (0 : Int)),
                                      (0 : Int), (0 : Int), [], [], (0 : Int), (0 : Int), (0 : Int), (0 : Int), (0 : Int), (0 : Int), (0 : Int),
                                      false, (0 : Int), [])).2.2.2.2.1,
                        ()),
                      (), ()))
                  fun (x12 : (List Int × Unit) × Unit × Unit) =>
                  bd
                    (grd
                      (decide
                        (List.length
                            (((y5.2.2.1.set y8.toNat
                                                                  (putD
                                                                    (((Ty.int IntKind.i64).pair
                                                                          ((Ty.int IntKind.i64).pair
                                                                            ((Ty.int IntKind.i64).pair
                                                                              ((Ty.int IntKind.u16).pair
                                                                                ((Ty.int IntKind.u16).pair
                                                                                  ((Ty.int IntKind.u16).pair
                                                                                    (Ty.bool.slice.pair
                                                                                      ((Ty.int IntKind.u16).slice.pair
                                                                                        ((Ty.int IntKind.i64).pair
                                                                                          ((Ty.int IntKind.i64).pair
                                                                                            ((Ty.int IntKind.i64).pair
                                                                                              (Ty.int IntKind.i64)))))))))))).pair
                                                                      ((Ty.int IntKind.i64).pair
                                                                        ((Ty.int IntKind.i64).pair
                                                                          (Ty.bool.slice.pair
                                                                            ((Ty.int IntKind.u16).slice.pair
                                                                              ((Ty.int IntKind.i64).pair
                                                                                ((Ty.int IntKind.i64).pair
                                                                                  ((Ty.int IntKind.u16).pair
                                                                                    ((Ty.int IntKind.u16).pair
                                                                                      ((Ty.int IntKind.u16).pair
                                                                                        ((Ty.int IntKind.i64).pair
                                                                                          ((Ty.int IntKind.i64).pair
                                                                                            (Ty.bool.pair
                                                                                              ((Ty.int IntKind.i64).pair
                                                                                                ((Ty.int IntKind.i64).pair Ty.str).slice))))))))))))))
                                                                    (y5.2.2.1.getD y8.toNat
                                                                      (((0 : Int), (0 : Int), (0 : Int), (0 : Int), (0 : Int), (0 : Int), [], [],
                                                                          (0 : Int), (0 : Int), (0 : Int), (0 : Int)),
                                                                        (0 : Int), (0 : Int), [], [], (0 : Int), (0 : Int), (0 : Int), (0 : Int),
                                                                        (0 : Int), (0 : Int), (0 : Int), false, (0 : Int), []))
                                                                    (6 : Nat) Ty.bool.slice x9.1.1)).set
                                                              y8.toNat
                                                              (putD
                                                                (((Ty.int IntKind.i64).pair
                                                                      ((Ty.int IntKind.i64).pair
                                                                        ((Ty.int IntKind.i64).pair
                                                                          ((Ty.int IntKind.u16).pair
                                                                            ((Ty.int IntKind.u16).pair
                                                                              ((Ty.int IntKind.u16).pair
                                                                                (Ty.bool.slice.pair
                                                                                  ((Ty.int IntKind.u16).slice.pair
                                                                                    ((Ty.int IntKind.i64).pair
                                                                                      ((Ty.int IntKind.i64).pair
                                                                                        ((Ty.int IntKind.i64).pair
                                                                                          (Ty.int IntKind.i64)))))))))))).pair
                                                                  ((Ty.int IntKind.i64).pair
                                                                    ((Ty.int IntKind.i64).pair
                                                                      (Ty.bool.slice.pair
                                                                        ((Ty.int IntKind.u16).slice.pair
                                                                          ((Ty.int IntKind.i64).pair
                                                                            ((Ty.int IntKind.i64).pair
                                                                              ((Ty.int IntKind.u16).pair
                                                                                ((Ty.int IntKind.u16).pair
                                                                                  ((Ty.int IntKind.u16).pair
                                                                                    ((Ty.int IntKind.i64).pair
                                                                                      ((Ty.int IntKind.i64).pair
                                                                                        (Ty.bool.pair
                                                                                          ((Ty.int IntKind.i64).pair
                                                                                            ((Ty.int IntKind.i64).pair Ty.str).slice))))))))))))))
                                                                ((y5.2.2.1.set y8.toNat
                                                                      (putD
                                                                        (((Ty.int IntKind.i64).pair
                                                                              ((Ty.int IntKind.i64).pair
                                                                                ((Ty.int IntKind.i64).pair
                                                                                  ((Ty.int IntKind.u16).pair
                                                                                    ((Ty.int IntKind.u16).pair
                                                                                      ((Ty.int IntKind.u16).pair
                                                                                        (Ty.bool.slice.pair
                                                                                          ((Ty.int IntKind.u16).slice.pair
                                                                                            ((Ty.int IntKind.i64).pair
                                                                                              ((Ty.int IntKind.i64).pair
                                                                                                ((Ty.int IntKind.i64).pair
                                                                                                  (Ty.int IntKind.i64)))))))))))).pair
                                                                          ((Ty.int IntKind.i64).pair
                                                                            ((Ty.int IntKind.i64).pair
                                                                              (Ty.bool.slice.pair
                                                                                ((Ty.int IntKind.u16).slice.pair
                                                                                  ((Ty.int IntKind.i64).pair
                                                                                    ((Ty.int IntKind.i64).pair
                                                                                      ((Ty.int IntKind.u16).pair
                                                                                        ((Ty.int IntKind.u16).pair
                                                                                          ((Ty.int IntKind.u16).pair
                                                                                            ((Ty.int IntKind.i64).pair
                                                                                              ((Ty.int IntKind.i64).pair
                                                                                                (Ty.bool.pair
                                                                                                  ((Ty.int IntKind.i64).pair
                                                                                                    ((Ty.int IntKind.i64).pair
                                                                                                        Ty.str).slice))))))))))))))
                                                                        (y5.2.2.1.getD y8.toNat
                                                                          (((0 : Int), (0 : Int), (0 : Int), (0 : Int), (0 : Int), (0 : Int), [], [],
                                                                              (0 : Int), (0 : Int), (0 : Int), (0 : Int)),
                                                                            (0 : Int), (0 : Int), [], [], (0 : Int), (0 : Int), (0 : Int), (0 : Int),
                                                                            (0 : Int), (0 : Int), (0 : Int), false, (0 : Int), []))
                                                                        (6 : Nat) Ty.bool.slice x9.1.1)).getD
                                                                  y8.toNat
                                                                  (((0 : Int), (0 : Int), (0 : Int), (0 : Int), (0 : Int), (0 : Int), [], [],
                                                                      (0 : Int), (0 : Int), (0 : Int), (0 : Int)),
                                                                    (0 : Int), (0 : Int), [], [], (0 : Int), (0 : Int), (0 : Int), (0 : Int),
                                                                    (0 : Int), (0 : Int), (0 : Int), false, (0 : Int), []))
                                                                (7 : Nat) (Ty.int IntKind.u16).slice x10.1.1)).getD
                                                          y8.toNat
                                                          (((0 : Int), (0 : Int), (0 : Int), (0 : Int), (0 : Int), (0 : Int), [], [], (0 : Int),
                                                              (0 : Int), (0 : Int), (0 : Int)),
                                                            (0 : Int), (0 : Int), [], [], (0 : Int), (0 : Int), (0 : Int), (0 : Int), (0 : Int),
                                                            (0 : Int), (0 : Int), false, (0 : Int), [])).2.2.2.2.2.2.2.2.2.2.2.2.2.2 <
                          (1000000 : Nat)))
                      (((((y5.2.2.1.set y8.toNat
                                                                (putD
                                                                  (((Ty.int IntKind.i64).pair
                                                                        ((Ty.int IntKind.i64).pair
                                                                          ((Ty.int IntKind.i64).pair
                                                                            ((Ty.int IntKind.u16).pair
                                                                              ((Ty.int IntKind.u16).pair
                                                                                ((Ty.int IntKind.u16).pair
                                                                                  (Ty.bool.slice.pair
                                                                                    ((Ty.int IntKind.u16).slice.pair
                                                                                      ((Ty.int IntKind.i64).pair
                                                                                        ((Ty.int IntKind.i64).pair
                                                                                          ((Ty.int IntKind.i64).pair
                                                                                            (Ty.int IntKind.i64)))))))))))).pair
                                                                    ((Ty.int IntKind.i64).pair
                                                                      ((Ty.int IntKind.i64).pair
                                                                        (Ty.bool.slice.pair
                                                                          ((Ty.int IntKind.u16).slice.pair
                                                                            ((Ty.int IntKind.i64).pair
                                                                              ((Ty.int IntKind.i64).pair
                                                                                ((Ty.int IntKind.u16).pair
                                                                                  ((Ty.int IntKind.u16).pair
                                                                                    ((Ty.int IntKind.u16).pair
                                                                                      ((Ty.int IntKind.i64).pair
                                                                                        ((Ty.int IntKind.i64).pair
                                                                                          (Ty.bool.pair
                                                                                            ((Ty.int IntKind.i64).pair
                                                                                              ((Ty.int IntKind.i64).pair Ty.str).slice))))))))))))))
                                                                  (y5.2.2.1.getD y8.toNat
                                                                    (((0 : Int), (0 : Int), (0 : Int), (0 : Int), (0 : Int), (0 : Int), [], [],
                                                                        (0 : Int), (0 : Int), (0 : Int), (0 : Int)),
                                                                      (0 : Int), (0 : Int), [], [], (0 : Int), (0 : Int), (0 : Int), (0 : Int),
                                                                      (0 : Int), (0 : Int), (0 : Int), false, (0 : Int), []))
                                                                  (6 : Nat) Ty.bool.slice x9.1.1)).set
                                                            y8.toNat
                                                            (putD
                                                              (((Ty.int IntKind.i64).pair
                                                                    ((Ty.int IntKind.i64).pair
                                                                      ((Ty.int IntKind.i64).pair
                                                                        ((Ty.int IntKind.u16).pair
                                                                          ((Ty.int IntKind.u16).pair
                                                                            ((Ty.int IntKind.u16).pair
                                                                              (Ty.bool.slice.pair
                                                                                ((Ty.int IntKind.u16).slice.pair
                                                                                  ((Ty.int IntKind.i64).pair
                                                                                    ((Ty.int IntKind.i64).pair
                                                                                      ((Ty.int IntKind.i64).pair (Ty.int IntKind.i64)))))))))))).pair
                                                                ((Ty.int IntKind.i64).pair
                                                                  ((Ty.int IntKind.i64).pair
                                                                    (Ty.bool.slice.pair
                                                                      ((Ty.int IntKind.u16).slice.pair
                                                                        ((Ty.int IntKind.i64).pair
                                                                          ((Ty.int IntKind.i64).pair
                                                                            ((Ty.int IntKind.u16).pair
                                                                              ((Ty.int IntKind.u16).pair
                                                                                ((Ty.int IntKind.u16).pair
                                                                                  ((Ty.int IntKind.i64).pair
                                                                                    ((Ty.int IntKind.i64).pair
                                                                                      (Ty.bool.pair
                                                                                        ((Ty.int IntKind.i64).pair
                                                                                          ((Ty.int IntKind.i64).pair Ty.str).slice))))))))))))))
                                                              ((y5.2.2.1.set y8.toNat
                                                                    (putD
                                                                      (((Ty.int IntKind.i64).pair
                                                                            ((Ty.int IntKind.i64).pair
                                                                              ((Ty.int IntKind.i64).pair
                                                                                ((Ty.int IntKind.u16).pair
                                                                                  ((Ty.int IntKind.u16).pair
                                                                                    ((Ty.int IntKind.u16).pair
                                                                                      (Ty.bool.slice.pair
                                                                                        ((Ty.int IntKind.u16).slice.pair
                                                                                          ((Ty.int IntKind.i64).pair
                                                                                            ((Ty.int IntKind.i64).pair
                                                                                              ((Ty.int IntKind.i64).pair
                                                                                                (Ty.int IntKind.i64)))))))))))).pair
                                                                        ((Ty.int IntKind.i64).pair
                                                                          ((Ty.int IntKind.i64).pair
                                                                            (Ty.bool.slice.pair
                                                                              ((Ty.int IntKind.u16).slice.pair
                                                                                ((Ty.int IntKind.i64).pair
                                                                                  ((Ty.int IntKind.i64).pair
                                                                                    ((Ty.int IntKind.u16).pair
                                                                                      ((Ty.int IntKind.u16).pair
                                                                                        ((Ty.int IntKind.u16).pair
                                                                                          ((Ty.int IntKind.i64).pair
                                                                                            ((Ty.int IntKind.i64).pair
                                                                                              (Ty.bool.pair
                                                                                                ((Ty.int IntKind.i64).pair
                                                                                                  ((Ty.int IntKind.i64).pair
                                                                                                      Ty.str).slice))))))))))))))
                                                                      (y5.2.2.1.getD y8.toNat
                                                                        (((0 : Int), (0 : Int), (0 : Int), (0 : Int), (0 : Int), (0 : Int), [], [],
                                                                            (0 : Int), (0 : Int), (0 : Int), (0 : Int)),
                                                                          (0 : Int), (0 : Int), [], [], (0 : Int), (0 : Int), (0 : Int), (0 : Int),
                                                                          (0 : Int), (0 : Int), (0 : Int), false, (0 : Int), []))
                                                                      (6 : Nat) Ty.bool.slice x9.1.1)).getD
                                                                y8.toNat
                                                                (((0 : Int), (0 : Int), (0 : Int), (0 : Int), (0 : Int), (0 : Int), [], [], (0 : Int),
                                                                    (0 : Int), (0 : Int), (0 : Int)),
                                                                  (0 : Int), (0 : Int), [], [], (0 : Int), (0 : Int), (0 : Int), (0 : Int), (0 : Int),
                                                                  (0 : Int), (0 : Int), false, (0 : Int), []))
                                                              (7 : Nat) (Ty.int IntKind.u16).slice x10.1.1)).getD
                                                        y8.toNat
                                                        (((0 : Int), (0 : Int), (0 : Int), (0 : Int), (0 : Int), (0 : Int), [], [], (0 : Int),
                                                            (0 : Int), (0 : Int), (0 : Int)),
                                                          (0 : Int), (0 : Int), [], [], (0 : Int), (0 : Int), (0 : Int), (0 : Int), (0 : Int),
                                                          (0 : Int), (0 : Int), false, (0 : Int), [])).2.2.2.2.2.2.2.2.2.2.2.2.2.2,
                          ()),
                        (), ()))
                    fun (x13 : (List (Int × ByteArray) × Unit) × Unit × Unit) =>
                    rec3
                      ((y5.1, y5.2.1,
                          ((((y5.2.2.1.set y8.toNat
                                            (putD
                                              (((Ty.int IntKind.i64).pair
                                                    ((Ty.int IntKind.i64).pair
                                                      ((Ty.int IntKind.i64).pair
                                                        ((Ty.int IntKind.u16).pair
                                                          ((Ty.int IntKind.u16).pair
                                                            ((Ty.int IntKind.u16).pair
                                                              (Ty.bool.slice.pair
                                                                ((Ty.int IntKind.u16).slice.pair
                                                                  ((Ty.int IntKind.i64).pair
                                                                    ((Ty.int IntKind.i64).pair
                                                                      ((Ty.int IntKind.i64).pair (Ty.int IntKind.i64)))))))))))).pair
                                                ((Ty.int IntKind.i64).pair
                                                  ((Ty.int IntKind.i64).pair
                                                    (Ty.bool.slice.pair
                                                      ((Ty.int IntKind.u16).slice.pair
                                                        ((Ty.int IntKind.i64).pair
                                                          ((Ty.int IntKind.i64).pair
                                                            ((Ty.int IntKind.u16).pair
                                                              ((Ty.int IntKind.u16).pair
                                                                ((Ty.int IntKind.u16).pair
                                                                  ((Ty.int IntKind.i64).pair
                                                                    ((Ty.int IntKind.i64).pair
                                                                      (Ty.bool.pair
                                                                        ((Ty.int IntKind.i64).pair
                                                                          ((Ty.int IntKind.i64).pair Ty.str).slice))))))))))))))
                                              (y5.2.2.1.getD y8.toNat
                                                (((0 : Int), (0 : Int), (0 : Int), (0 : Int), (0 : Int), (0 : Int), [], [], (0 : Int), (0 : Int),
                                                    (0 : Int), (0 : Int)),
                                                  (0 : Int), (0 : Int), [], [], (0 : Int), (0 : Int), (0 : Int), (0 : Int), (0 : Int), (0 : Int),
                                                  (0 : Int), false, (0 : Int), []))
                                              (6 : Nat) Ty.bool.slice x9.1.1)).set
                                        y8.toNat
                                        (putD
                                          (((Ty.int IntKind.i64).pair
                                                ((Ty.int IntKind.i64).pair
                                                  ((Ty.int IntKind.i64).pair
                                                    ((Ty.int IntKind.u16).pair
                                                      ((Ty.int IntKind.u16).pair
                                                        ((Ty.int IntKind.u16).pair
                                                          (Ty.bool.slice.pair
                                                            ((Ty.int IntKind.u16).slice.pair
                                                              ((Ty.int IntKind.i64).pair
                                                                ((Ty.int IntKind.i64).pair
                                                                  ((Ty.int IntKind.i64).pair (Ty.int IntKind.i64)))))))))))).pair
                                            ((Ty.int IntKind.i64).pair
                                              ((Ty.int IntKind.i64).pair
                                                (Ty.bool.slice.pair
                                                  ((Ty.int IntKind.u16).slice.pair
                                                    ((Ty.int IntKind.i64).pair
                                                      ((Ty.int IntKind.i64).pair
                                                        ((Ty.int IntKind.u16).pair
                                                          ((Ty.int IntKind.u16).pair
                                                            ((Ty.int IntKind.u16).pair
                                                              ((Ty.int IntKind.i64).pair
                                                                ((Ty.int IntKind.i64).pair
                                                                  (Ty.bool.pair
                                                                    ((Ty.int IntKind.i64).pair ((Ty.int IntKind.i64).pair Ty.str).slice))))))))))))))
                                          ((y5.2.2.1.set y8.toNat
                                                (putD
                                                  (((Ty.int IntKind.i64).pair
                                                        ((Ty.int IntKind.i64).pair
                                                          ((Ty.int IntKind.i64).pair
                                                            ((Ty.int IntKind.u16).pair
                                                              ((Ty.int IntKind.u16).pair
                                                                ((Ty.int IntKind.u16).pair
                                                                  (Ty.bool.slice.pair
                                                                    ((Ty.int IntKind.u16).slice.pair
                                                                      ((Ty.int IntKind.i64).pair
                                                                        ((Ty.int IntKind.i64).pair
                                                                          ((Ty.int IntKind.i64).pair (Ty.int IntKind.i64)))))))))))).pair
                                                    ((Ty.int IntKind.i64).pair
                                                      ((Ty.int IntKind.i64).pair
                                                        (Ty.bool.slice.pair
                                                          ((Ty.int IntKind.u16).slice.pair
                                                            ((Ty.int IntKind.i64).pair
                                                              ((Ty.int IntKind.i64).pair
                                                                ((Ty.int IntKind.u16).pair
                                                                  ((Ty.int IntKind.u16).pair
                                                                    ((Ty.int IntKind.u16).pair
                                                                      ((Ty.int IntKind.i64).pair
                                                                        ((Ty.int IntKind.i64).pair
                                                                          (Ty.bool.pair
                                                                            ((Ty.int IntKind.i64).pair
                                                                              ((Ty.int IntKind.i64).pair Ty.str).slice))))))))))))))
                                                  (y5.2.2.1.getD y8.toNat
                                                    (((0 : Int), (0 : Int), (0 : Int), (0 : Int), (0 : Int), (0 : Int), [], [], (0 : Int), (0 : Int),
                                                        (0 : Int), (0 : Int)),
                                                      (0 : Int), (0 : Int), [], [], (0 : Int), (0 : Int), (0 : Int), (0 : Int), (0 : Int), (0 : Int),
                                                      (0 : Int), false, (0 : Int), []))
                                                  (6 : Nat) Ty.bool.slice x9.1.1)).getD
                                            y8.toNat
                                            (((0 : Int), (0 : Int), (0 : Int), (0 : Int), (0 : Int), (0 : Int), [], [], (0 : Int), (0 : Int),
                                                (0 : Int), (0 : Int)),
                                              (0 : Int), (0 : Int), [], [], (0 : Int), (0 : Int), (0 : Int), (0 : Int), (0 : Int), (0 : Int),
                                              (0 : Int), false, (0 : Int), []))
                                          (7 : Nat) (Ty.int IntKind.u16).slice x10.1.1)).set
                                    y8.toNat
                                    (putD
                                      (((Ty.int IntKind.i64).pair
                                            ((Ty.int IntKind.i64).pair
                                              ((Ty.int IntKind.i64).pair
                                                ((Ty.int IntKind.u16).pair
                                                  ((Ty.int IntKind.u16).pair
                                                    ((Ty.int IntKind.u16).pair
                                                      (Ty.bool.slice.pair
                                                        ((Ty.int IntKind.u16).slice.pair
                                                          ((Ty.int IntKind.i64).pair
                                                            ((Ty.int IntKind.i64).pair ((Ty.int IntKind.i64).pair (Ty.int IntKind.i64)))))))))))).pair
                                        ((Ty.int IntKind.i64).pair
                                          ((Ty.int IntKind.i64).pair
                                            (Ty.bool.slice.pair
                                              ((Ty.int IntKind.u16).slice.pair
                                                ((Ty.int IntKind.i64).pair
                                                  ((Ty.int IntKind.i64).pair
                                                    ((Ty.int IntKind.u16).pair
                                                      ((Ty.int IntKind.u16).pair
                                                        ((Ty.int IntKind.u16).pair
                                                          ((Ty.int IntKind.i64).pair
                                                            ((Ty.int IntKind.i64).pair
                                                              (Ty.bool.pair
                                                                ((Ty.int IntKind.i64).pair ((Ty.int IntKind.i64).pair Ty.str).slice))))))))))))))
                                      (((y5.2.2.1.set y8.toNat
                                                (putD
                                                  (((Ty.int IntKind.i64).pair
                                                        ((Ty.int IntKind.i64).pair
                                                          ((Ty.int IntKind.i64).pair
                                                            ((Ty.int IntKind.u16).pair
                                                              ((Ty.int IntKind.u16).pair
                                                                ((Ty.int IntKind.u16).pair
                                                                  (Ty.bool.slice.pair
                                                                    ((Ty.int IntKind.u16).slice.pair
                                                                      ((Ty.int IntKind.i64).pair
                                                                        ((Ty.int IntKind.i64).pair
                                                                          ((Ty.int IntKind.i64).pair (Ty.int IntKind.i64)))))))))))).pair
                                                    ((Ty.int IntKind.i64).pair
                                                      ((Ty.int IntKind.i64).pair
                                                        (Ty.bool.slice.pair
                                                          ((Ty.int IntKind.u16).slice.pair
                                                            ((Ty.int IntKind.i64).pair
                                                              ((Ty.int IntKind.i64).pair
                                                                ((Ty.int IntKind.u16).pair
                                                                  ((Ty.int IntKind.u16).pair
                                                                    ((Ty.int IntKind.u16).pair
                                                                      ((Ty.int IntKind.i64).pair
                                                                        ((Ty.int IntKind.i64).pair
                                                                          (Ty.bool.pair
                                                                            ((Ty.int IntKind.i64).pair
                                                                              ((Ty.int IntKind.i64).pair Ty.str).slice))))))))))))))
                                                  (y5.2.2.1.getD y8.toNat
                                                    (((0 : Int), (0 : Int), (0 : Int), (0 : Int), (0 : Int), (0 : Int), [], [], (0 : Int), (0 : Int),
                                                        (0 : Int), (0 : Int)),
                                                      (0 : Int), (0 : Int), [], [], (0 : Int), (0 : Int), (0 : Int), (0 : Int), (0 : Int), (0 : Int),
                                                      (0 : Int), false, (0 : Int), []))
                                                  (6 : Nat) Ty.bool.slice x9.1.1)).set
                                            y8.toNat
                                            (putD
                                              (((Ty.int IntKind.i64).pair
                                                    ((Ty.int IntKind.i64).pair
                                                      ((Ty.int IntKind.i64).pair
                                                        ((Ty.int IntKind.u16).pair
                                                          ((Ty.int IntKind.u16).pair
                                                            ((Ty.int IntKind.u16).pair
                                                              (Ty.bool.slice.pair
                                                                ((Ty.int IntKind.u16).slice.pair
                                                                  ((Ty.int IntKind.i64).pair
                                                                    ((Ty.int IntKind.i64).pair
                                                                      ((Ty.int IntKind.i64).pair (Ty.int IntKind.i64)))))))))))).pair
                                                ((Ty.int IntKind.i64).pair
                                                  ((Ty.int IntKind.i64).pair
                                                    (Ty.bool.slice.pair
                                                      ((Ty.int IntKind.u16).slice.pair
                                                        ((Ty.int IntKind.i64).pair
                                                          ((Ty.int IntKind.i64).pair
                                                            ((Ty.int IntKind.u16).pair
                                                              ((Ty.int IntKind.u16).pair
                                                                ((Ty.int IntKind.u16).pair
                                                                  ((Ty.int IntKind.i64).pair
                                                                    ((Ty.int IntKind.i64).pair
                                                                      (Ty.bool.pair
                                                                        ((Ty.int IntKind.i64).pair
                                                                          ((Ty.int IntKind.i64).pair Ty.str).slice))))))))))))))
                                              ((y5.2.2.1.set y8.toNat
                                                    (putD
                                                      (((Ty.int IntKind.i64).pair
                                                            ((Ty.int IntKind.i64).pair
                                                              ((Ty.int IntKind.i64).pair
                                                                ((Ty.int IntKind.u16).pair
                                                                  ((Ty.int IntKind.u16).pair
                                                                    ((Ty.int IntKind.u16).pair
                                                                      (Ty.bool.slice.pair
                                                                        ((Ty.int IntKind.u16).slice.pair
                                                                          ((Ty.int IntKind.i64).pair
                                                                            ((Ty.int IntKind.i64).pair
                                                                              ((Ty.int IntKind.i64).pair (Ty.int IntKind.i64)))))))))))).pair
                                                        ((Ty.int IntKind.i64).pair
                                                          ((Ty.int IntKind.i64).pair
                                                            (Ty.bool.slice.pair
                                                              ((Ty.int IntKind.u16).slice.pair
                                                                ((Ty.int IntKind.i64).pair
                                                                  ((Ty.int IntKind.i64).pair
                                                                    ((Ty.int IntKind.u16).pair
                                                                      ((Ty.int IntKind.u16).pair
                                                                        ((Ty.int IntKind.u16).pair
                                                                          ((Ty.int IntKind.i64).pair
                                                                            ((Ty.int IntKind.i64).pair
                                                                              (Ty.bool.pair
                                                                                ((Ty.int IntKind.i64).pair
                                                                                  ((Ty.int IntKind.i64).pair Ty.str).slice))))))))))))))
                                                      (y5.2.2.1.getD y8.toNat
                                                        (((0 : Int), (0 : Int), (0 : Int), (0 : Int), (0 : Int), (0 : Int), [], [], (0 : Int),
                                                            (0 : Int), (0 : Int), (0 : Int)),
                                                          (0 : Int), (0 : Int), [], [], (0 : Int), (0 : Int), (0 : Int), (0 : Int), (0 : Int),
                                                          (0 : Int), (0 : Int), false, (0 : Int), []))
                                                      (6 : Nat) Ty.bool.slice x9.1.1)).getD
                                                y8.toNat
                                                (((0 : Int), (0 : Int), (0 : Int), (0 : Int), (0 : Int), (0 : Int), [], [], (0 : Int), (0 : Int),
                                                    (0 : Int), (0 : Int)),
                                                  (0 : Int), (0 : Int), [], [], (0 : Int), (0 : Int), (0 : Int), (0 : Int), (0 : Int), (0 : Int),
                                                  (0 : Int), false, (0 : Int), []))
                                              (7 : Nat) (Ty.int IntKind.u16).slice x10.1.1)).getD
                                        y8.toNat
                                        (((0 : Int), (0 : Int), (0 : Int), (0 : Int), (0 : Int), (0 : Int), [], [], (0 : Int), (0 : Int), (0 : Int),
                                            (0 : Int)),
                                          (0 : Int), (0 : Int), [], [], (0 : Int), (0 : Int), (0 : Int), (0 : Int), (0 : Int), (0 : Int), (0 : Int),
                                          false, (0 : Int), []))
                                      (14 : Nat) Ty.bool.slice x11.1.1)).set
                                y8.toNat
                                (putD
                                  (((Ty.int IntKind.i64).pair
                                        ((Ty.int IntKind.i64).pair
                                          ((Ty.int IntKind.i64).pair
                                            ((Ty.int IntKind.u16).pair
                                              ((Ty.int IntKind.u16).pair
                                                ((Ty.int IntKind.u16).pair
                                                  (Ty.bool.slice.pair
                                                    ((Ty.int IntKind.u16).slice.pair
                                                      ((Ty.int IntKind.i64).pair
                                                        ((Ty.int IntKind.i64).pair ((Ty.int IntKind.i64).pair (Ty.int IntKind.i64)))))))))))).pair
                                    ((Ty.int IntKind.i64).pair
                                      ((Ty.int IntKind.i64).pair
                                        (Ty.bool.slice.pair
                                          ((Ty.int IntKind.u16).slice.pair
                                            ((Ty.int IntKind.i64).pair
                                              ((Ty.int IntKind.i64).pair
                                                ((Ty.int IntKind.u16).pair
                                                  ((Ty.int IntKind.u16).pair
                                                    ((Ty.int IntKind.u16).pair
                                                      ((Ty.int IntKind.i64).pair
                                                        ((Ty.int IntKind.i64).pair
                                                          (Ty.bool.pair
                                                            ((Ty.int IntKind.i64).pair ((Ty.int IntKind.i64).pair Ty.str).slice))))))))))))))
                                  ((((y5.2.2.1.set y8.toNat
                                                (putD
                                                  (((Ty.int IntKind.i64).pair
                                                        ((Ty.int IntKind.i64).pair
                                                          ((Ty.int IntKind.i64).pair
                                                            ((Ty.int IntKind.u16).pair
                                                              ((Ty.int IntKind.u16).pair
                                                                ((Ty.int IntKind.u16).pair
                                                                  (Ty.bool.slice.pair
                                                                    ((Ty.int IntKind.u16).slice.pair
                                                                      ((Ty.int IntKind.i64).pair
                                                                        ((Ty.int IntKind.i64).pair
                                                                          ((Ty.int IntKind.i64).pair (Ty.int IntKind.i64)))))))))))).pair
                                                    ((Ty.int IntKind.i64).pair
                                                      ((Ty.int IntKind.i64).pair
                                                        (Ty.bool.slice.pair
                                                          ((Ty.int IntKind.u16).slice.pair
                                                            ((Ty.int IntKind.i64).pair
                                                              ((Ty.int IntKind.i64).pair
                                                                ((Ty.int IntKind.u16).pair
                                                                  ((Ty.int IntKind.u16).pair
                                                                    ((Ty.int IntKind.u16).pair
                                                                      ((Ty.int IntKind.i64).pair
                                                                        ((Ty.int IntKind.i64).pair
                                                                          (Ty.bool.pair
                                                                            ((Ty.int IntKind.i64).pair
                                                                              ((Ty.int IntKind.i64).pair Ty.str).slice))))))))))))))
                                                  (y5.2.2.1.getD y8.toNat
                                                    (((0 : Int), (0 : Int), (0 : Int), (0 : Int), (0 : Int), (0 : Int), [], [], (0 : Int), (0 : Int),
                                                        (0 : Int), (0 : Int)),
                                                      (0 : Int), (0 : Int), [], [], (0 : Int), (0 : Int), (0 : Int), (0 : Int), (0 : Int), (0 : Int),
                                                      (0 : Int), false, (0 : Int), []))
                                                  (6 : Nat) Ty.bool.slice x9.1.1)).set
                                            y8.toNat
                                            (putD
                                              (((Ty.int IntKind.i64).pair
                                                    ((Ty.int IntKind.i64).pair
                                                      ((Ty.int IntKind.i64).pair
                                                        ((Ty.int IntKind.u16).pair
                                                          ((Ty.int IntKind.u16).pair
                                                            ((Ty.int IntKind.u16).pair
                                                              (Ty.bool.slice.pair
                                                                ((Ty.int IntKind.u16).slice.pair
                                                                  ((Ty.int IntKind.i64).pair
                                                                    ((Ty.int IntKind.i64).pair
                                                                      ((Ty.int IntKind.i64).pair (Ty.int IntKind.i64)))))))))))).pair
                                                ((Ty.int IntKind.i64).pair
                                                  ((Ty.int IntKind.i64).pair
                                                    (Ty.bool.slice.pair
                                                      ((Ty.int IntKind.u16).slice.pair
                                                        ((Ty.int IntKind.i64).pair
                                                          ((Ty.int IntKind.i64).pair
                                                            ((Ty.int IntKind.u16).pair
                                                              ((Ty.int IntKind.u16).pair
                                                                ((Ty.int IntKind.u16).pair
                                                                  ((Ty.int IntKind.i64).pair
                                                                    ((Ty.int IntKind.i64).pair
                                                                      (Ty.bool.pair
                                                                        ((Ty.int IntKind.i64).pair
                                                                          ((Ty.int IntKind.i64).pair Ty.str).slice))))))))))))))
                                              ((y5.2.2.1.set y8.toNat
                                                    (putD
                                                      (((Ty.int IntKind.i64).pair
                                                            ((Ty.int IntKind.i64).pair
                                                              ((Ty.int IntKind.i64).pair
                                                                ((Ty.int IntKind.u16).pair
                                                                  ((Ty.int IntKind.u16).pair
                                                                    ((Ty.int IntKind.u16).pair
                                                                      (Ty.bool.slice.pair
                                                                        ((Ty.int IntKind.u16).slice.pair
                                                                          ((Ty.int IntKind.i64).pair
                                                                            ((Ty.int IntKind.i64).pair
                                                                              ((Ty.int IntKind.i64).pair (Ty.int IntKind.i64)))))))))))).pair
                                                        ((Ty.int IntKind.i64).pair
                                                          ((Ty.int IntKind.i64).pair
                                                            (Ty.bool.slice.pair
                                                              ((Ty.int IntKind.u16).slice.pair
                                                                ((Ty.int IntKind.i64).pair
                                                                  ((Ty.int IntKind.i64).pair
                                                                    ((Ty.int IntKind.u16).pair
                                                                      ((Ty.int IntKind.u16).pair
                                                                        ((Ty.int IntKind.u16).pair
                                                                          ((Ty.int IntKind.i64).pair
                                                                            ((Ty.int IntKind.i64).pair
                                                                              (Ty.bool.pair
                                                                                ((Ty.int IntKind.i64).pair
                                                                                  ((Ty.int IntKind.i64).pair Ty.str).slice))))))))))))))
                                                      (y5.2.2.1.getD y8.toNat
                                                        (((0 : Int), (0 : Int), (0 : Int), (0 : Int), (0 : Int), (0 : Int), [], [], (0 : Int),
                                                            (0 : Int), (0 : Int), (0 : Int)),
                                                          (0 : Int), (0 : Int), [], [], (0 : Int), (0 : Int), (0 : Int), (0 : Int), (0 : Int),
                                                          (0 : Int), (0 : Int), false, (0 : Int), []))
                                                      (6 : Nat) Ty.bool.slice x9.1.1)).getD
                                                y8.toNat
                                                (((0 : Int), (0 : Int), (0 : Int), (0 : Int), (0 : Int), (0 : Int), [], [], (0 : Int), (0 : Int),
                                                    (0 : Int), (0 : Int)),
                                                  (0 : Int), (0 : Int), [], [], (0 : Int), (0 : Int), (0 : Int), (0 : Int), (0 : Int), (0 : Int),
                                                  (0 : Int), false, (0 : Int), []))
                                              (7 : Nat) (Ty.int IntKind.u16).slice x10.1.1)).set
                                        y8.toNat
                                        (putD
                                          (((Ty.int IntKind.i64).pair
                                                ((Ty.int IntKind.i64).pair
                                                  ((Ty.int IntKind.i64).pair
                                                    ((Ty.int IntKind.u16).pair
                                                      ((Ty.int IntKind.u16).pair
                                                        ((Ty.int IntKind.u16).pair
                                                          (Ty.bool.slice.pair
                                                            ((Ty.int IntKind.u16).slice.pair
                                                              ((Ty.int IntKind.i64).pair
                                                                ((Ty.int IntKind.i64).pair
                                                                  ((Ty.int IntKind.i64).pair (Ty.int IntKind.i64)))))))))))).pair
                                            ((Ty.int IntKind.i64).pair
                                              ((Ty.int IntKind.i64).pair
                                                (Ty.bool.slice.pair
                                                  ((Ty.int IntKind.u16).slice.pair
                                                    ((Ty.int IntKind.i64).pair
                                                      ((Ty.int IntKind.i64).pair
                                                        ((Ty.int IntKind.u16).pair
                                                          ((Ty.int IntKind.u16).pair
                                                            ((Ty.int IntKind.u16).pair
                                                              ((Ty.int IntKind.i64).pair
                                                                ((Ty.int IntKind.i64).pair
                                                                  (Ty.bool.pair
                                                                    ((Ty.int IntKind.i64).pair ((Ty.int IntKind.i64).pair Ty.str).slice))))))))))))))
                                          (((y5.2.2.1.set y8.toNat
                                                    (putD
                                                      (((Ty.int IntKind.i64).pair
                                                            ((Ty.int IntKind.i64).pair
                                                              ((Ty.int IntKind.i64).pair
                                                                ((Ty.int IntKind.u16).pair
                                                                  ((Ty.int IntKind.u16).pair
                                                                    ((Ty.int IntKind.u16).pair
                                                                      (Ty.bool.slice.pair
                                                                        ((Ty.int IntKind.u16).slice.pair
                                                                          ((Ty.int IntKind.i64).pair
                                                                            ((Ty.int IntKind.i64).pair
                                                                              ((Ty.int IntKind.i64).pair (Ty.int IntKind.i64)))))))))))).pair
                                                        ((Ty.int IntKind.i64).pair
                                                          ((Ty.int IntKind.i64).pair
                                                            (Ty.bool.slice.pair
                                                              ((Ty.int IntKind.u16).slice.pair
                                                                ((Ty.int IntKind.i64).pair
                                                                  ((Ty.int IntKind.i64).pair
                                                                    ((Ty.int IntKind.u16).pair
                                                                      ((Ty.int IntKind.u16).pair
                                                                        ((Ty.int IntKind.u16).pair
                                                                          ((Ty.int IntKind.i64).pair
                                                                            ((Ty.int IntKind.i64).pair
                                                                              (Ty.bool.pair
                                                                                ((Ty.int IntKind.i64).pair
                                                                                  ((Ty.int IntKind.i64).pair Ty.str).slice))))))))))))))
                                                      (y5.2.2.1.getD y8.toNat
                                                        (((0 : Int), (0 : Int), (0 : Int), (0 : Int), (0 : Int), (0 : Int), [], [], (0 : Int),
                                                            (0 : Int), (0 : Int), (0 : Int)),
                                                          (0 : Int), (0 : Int), [], [], (0 : Int), (0 : Int), (0 : Int), (0 : Int), (0 : Int),
                                                          (0 : Int), (0 : Int), false, (0 : Int), []))
                                                      (6 : Nat) Ty.bool.slice x9.1.1)).set
                                                y8.toNat
                                                (putD
                                                  (((Ty.int IntKind.i64).pair
                                                        ((Ty.int IntKind.i64).pair
                                                          ((Ty.int IntKind.i64).pair
                                                            ((Ty.int IntKind.u16).pair
                                                              ((Ty.int IntKind.u16).pair
                                                                ((Ty.int IntKind.u16).pair
                                                                  (Ty.bool.slice.pair
                                                                    ((Ty.int IntKind.u16).slice.pair
                                                                      ((Ty.int IntKind.i64).pair
                                                                        ((Ty.int IntKind.i64).pair
                                                                          ((Ty.int IntKind.i64).pair (Ty.int IntKind.i64)))))))))))).pair
                                                    ((Ty.int IntKind.i64).pair
                                                      ((Ty.int IntKind.i64).pair
                                                        (Ty.bool.slice.pair
                                                          ((Ty.int IntKind.u16).slice.pair
                                                            ((Ty.int IntKind.i64).pair
                                                              ((Ty.int IntKind.i64).pair
                                                                ((Ty.int IntKind.u16).pair
                                                                  ((Ty.int IntKind.u16).pair
                                                                    ((Ty.int IntKind.u16).pair
                                                                      ((Ty.int IntKind.i64).pair
                                                                        ((Ty.int IntKind.i64).pair
                                                                          (Ty.bool.pair
                                                                            ((Ty.int IntKind.i64).pair
                                                                              ((Ty.int IntKind.i64).pair Ty.str).slice))))))))))))))
                                                  ((y5.2.2.1.set y8.toNat
                                                        (putD
                                                          (((Ty.int IntKind.i64).pair
                                                                ((Ty.int IntKind.i64).pair
                                                                  ((Ty.int IntKind.i64).pair
                                                                    ((Ty.int IntKind.u16).pair
                                                                      ((Ty.int IntKind.u16).pair
                                                                        ((Ty.int IntKind.u16).pair
                                                                          (Ty.bool.slice.pair
                                                                            ((Ty.int IntKind.u16).slice.pair
                                                                              ((Ty.int IntKind.i64).pair
                                                                                ((Ty.int IntKind.i64).pair
                                                                                  ((Ty.int IntKind.i64).pair (Ty.int IntKind.i64)))))))))))).pair
                                                            ((Ty.int IntKind.i64).pair
                                                              ((Ty.int IntKind.i64).pair
                                                                (Ty.bool.slice.pair
                                                                  ((Ty.int IntKind.u16).slice.pair
                                                                    ((Ty.int IntKind.i64).pair
                                                                      ((Ty.int IntKind.i64).pair
                                                                        ((Ty.int IntKind.u16).pair
                                                                          ((Ty.int IntKind.u16).pair
                                                                            ((Ty.int IntKind.u16).pair
                                                                              ((Ty.int IntKind.i64).pair
                                                                                ((Ty.int IntKind.i64).pair
                                                                                  (Ty.bool.pair
                                                                                    ((Ty.int IntKind.i64).pair
                                                                                      ((Ty.int IntKind.i64).pair Ty.str).slice))))))))))))))
                                                          (y5.2.2.1.getD y8.toNat
                                                            (((0 : Int), (0 : Int), (0 : Int), (0 : Int), (0 : Int), (0 : Int), [], [], (0 : Int),
                                                                (0 : Int), (0 : Int), (0 : Int)),
                                                              (0 : Int), (0 : Int), [], [], (0 : Int), (0 : Int), (0 : Int), (0 : Int), (0 : Int),
                                                              (0 : Int), (0 : Int), false, (0 : Int), []))
                                                          (6 : Nat) Ty.bool.slice x9.1.1)).getD
                                                    y8.toNat
                                                    (((0 : Int), (0 : Int), (0 : Int), (0 : Int), (0 : Int), (0 : Int), [], [], (0 : Int), (0 : Int),
                                                        (0 : Int), (0 : Int)),
                                                      (0 : Int), (0 : Int), [], [], (0 : Int), (0 : Int), (0 : Int), (0 : Int), (0 : Int), (0 : Int),
                                                      (0 : Int), false, (0 : Int), []))
                                                  (7 : Nat) (Ty.int IntKind.u16).slice x10.1.1)).getD
                                            y8.toNat
                                            (((0 : Int), (0 : Int), (0 : Int), (0 : Int), (0 : Int), (0 : Int), [], [], (0 : Int), (0 : Int),
                                                (0 : Int), (0 : Int)),
                                              (0 : Int), (0 : Int), [], [], (0 : Int), (0 : Int), (0 : Int), (0 : Int), (0 : Int), (0 : Int),
                                              (0 : Int), false, (0 : Int), []))
                                          (14 : Nat) Ty.bool.slice x11.1.1)).getD
                                    y8.toNat
                                    (((0 : Int), (0 : Int), (0 : Int), (0 : Int), (0 : Int), (0 : Int), [], [], (0 : Int), (0 : Int), (0 : Int),
                                        (0 : Int)),
                                      (0 : Int), (0 : Int), [], [], (0 : Int), (0 : Int), (0 : Int), (0 : Int), (0 : Int), (0 : Int), (0 : Int),
                                      false, (0 : Int), []))
                                  (15 : Nat) (Ty.int IntKind.u16).slice x12.1.1)).set
                            y8.toNat
                            (putD
                              (((Ty.int IntKind.i64).pair
                                    ((Ty.int IntKind.i64).pair
                                      ((Ty.int IntKind.i64).pair
                                        ((Ty.int IntKind.u16).pair
                                          ((Ty.int IntKind.u16).pair
                                            ((Ty.int IntKind.u16).pair
                                              (Ty.bool.slice.pair
                                                ((Ty.int IntKind.u16).slice.pair
                                                  ((Ty.int IntKind.i64).pair
                                                    ((Ty.int IntKind.i64).pair ((Ty.int IntKind.i64).pair (Ty.int IntKind.i64)))))))))))).pair
                                ((Ty.int IntKind.i64).pair
                                  ((Ty.int IntKind.i64).pair
                                    (Ty.bool.slice.pair
                                      ((Ty.int IntKind.u16).slice.pair
                                        ((Ty.int IntKind.i64).pair
                                          ((Ty.int IntKind.i64).pair
                                            ((Ty.int IntKind.u16).pair
                                              ((Ty.int IntKind.u16).pair
                                                ((Ty.int IntKind.u16).pair
                                                  ((Ty.int IntKind.i64).pair
                                                    ((Ty.int IntKind.i64).pair
                                                      (Ty.bool.pair ((Ty.int IntKind.i64).pair ((Ty.int IntKind.i64).pair Ty.str).slice))))))))))))))
                              (((((y5.2.2.1.set y8.toNat
                                                (putD
                                                  (((Ty.int IntKind.i64).pair
                                                        ((Ty.int IntKind.i64).pair
                                                          ((Ty.int IntKind.i64).pair
                                                            ((Ty.int IntKind.u16).pair
                                                              ((Ty.int IntKind.u16).pair
                                                                ((Ty.int IntKind.u16).pair
                                                                  (Ty.bool.slice.pair
                                                                    ((Ty.int IntKind.u16).slice.pair
                                                                      ((Ty.int IntKind.i64).pair
                                                                        ((Ty.int IntKind.i64).pair
                                                                          ((Ty.int IntKind.i64).pair (Ty.int IntKind.i64)))))))))))).pair
                                                    ((Ty.int IntKind.i64).pair
                                                      ((Ty.int IntKind.i64).pair
                                                        (Ty.bool.slice.pair
                                                          ((Ty.int IntKind.u16).slice.pair
                                                            ((Ty.int IntKind.i64).pair
                                                              ((Ty.int IntKind.i64).pair
                                                                ((Ty.int IntKind.u16).pair
                                                                  ((Ty.int IntKind.u16).pair
                                                                    ((Ty.int IntKind.u16).pair
                                                                      ((Ty.int IntKind.i64).pair
                                                                        ((Ty.int IntKind.i64).pair
                                                                          (Ty.bool.pair
                                                                            ((Ty.int IntKind.i64).pair
                                                                              ((Ty.int IntKind.i64).pair Ty.str).slice))))))))))))))
                                                  (y5.2.2.1.getD y8.toNat
                                                    (((0 : Int), (0 : Int), (0 : Int), (0 : Int), (0 : Int), (0 : Int), [], [], (0 : Int), (0 : Int),
                                                        (0 : Int), (0 : Int)),
                                                      (0 : Int), (0 : Int), [], [], (0 : Int), (0 : Int), (0 : Int), (0 : Int), (0 : Int), (0 : Int),
                                                      (0 : Int), false, (0 : Int), []))
                                                  (6 : Nat) Ty.bool.slice x9.1.1)).set
                                            y8.toNat
                                            (putD
                                              (((Ty.int IntKind.i64).pair
                                                    ((Ty.int IntKind.i64).pair
                                                      ((Ty.int IntKind.i64).pair
                                                        ((Ty.int IntKind.u16).pair
                                                          ((Ty.int IntKind.u16).pair
                                                            ((Ty.int IntKind.u16).pair
                                                              (Ty.bool.slice.pair
                                                                ((Ty.int IntKind.u16).slice.pair
                                                                  ((Ty.int IntKind.i64).pair
                                                                    ((Ty.int IntKind.i64).pair
                                                                      ((Ty.int IntKind.i64).pair (Ty.int IntKind.i64)))))))))))).pair
                                                ((Ty.int IntKind.i64).pair
                                                  ((Ty.int IntKind.i64).pair
                                                    (Ty.bool.slice.pair
                                                      ((Ty.int IntKind.u16).slice.pair
                                                        ((Ty.int IntKind.i64).pair
                                                          ((Ty.int IntKind.i64).pair
                                                            ((Ty.int IntKind.u16).pair
                                                              ((Ty.int IntKind.u16).pair
                                                                ((Ty.int IntKind.u16).pair
                                                                  ((Ty.int IntKind.i64).pair
                                                                    ((Ty.int IntKind.i64).pair
                                                                      (Ty.bool.pair
                                                                        ((Ty.int IntKind.i64).pair
                                                                          ((Ty.int IntKind.i64).pair Ty.str).slice))))))))))))))
                                              ((y5.2.2.1.set y8.toNat
                                                    (putD
                                                      (((Ty.int IntKind.i64).pair
                                                            ((Ty.int IntKind.i64).pair
                                                              ((Ty.int IntKind.i64).pair
                                                                ((Ty.int IntKind.u16).pair
                                                                  ((Ty.int IntKind.u16).pair
                                                                    ((Ty.int IntKind.u16).pair
                                                                      (Ty.bool.slice.pair
                                                                        ((Ty.int IntKind.u16).slice.pair
                                                                          ((Ty.int IntKind.i64).pair
                                                                            ((Ty.int IntKind.i64).pair
                                                                              ((Ty.int IntKind.i64).pair (Ty.int IntKind.i64)))))))))))).pair
                                                        ((Ty.int IntKind.i64).pair
                                                          ((Ty.int IntKind.i64).pair
                                                            (Ty.bool.slice.pair
                                                              ((Ty.int IntKind.u16).slice.pair
                                                                ((Ty.int IntKind.i64).pair
                                                                  ((Ty.int IntKind.i64).pair
                                                                    ((Ty.int IntKind.u16).pair
                                                                      ((Ty.int IntKind.u16).pair
                                                                        ((Ty.int IntKind.u16).pair
                                                                          ((Ty.int IntKind.i64).pair
                                                                            ((Ty.int IntKind.i64).pair
                                                                              (Ty.bool.pair
                                                                                ((Ty.int IntKind.i64).pair
                                                                                  ((Ty.int IntKind.i64).pair Ty.str).slice))))))))))))))
                                                      (y5.2.2.1.getD y8.toNat
                                                        (((0 : Int), (0 : Int), (0 : Int), (0 : Int), (0 : Int), (0 : Int), [], [], (0 : Int),
                                                            (0 : Int), (0 : Int), (0 : Int)),
                                                          (0 : Int), (0 : Int), [], [], (0 : Int), (0 : Int), (0 : Int), (0 : Int), (0 : Int),
                                                          (0 : Int), (0 : Int), false, (0 : Int), []))
                                                      (6 : Nat) Ty.bool.slice x9.1.1)).getD
                                                y8.toNat
                                                (((0 : Int), (0 : Int), (0 : Int), (0 : Int), (0 : Int), (0 : Int), [], [], (0 : Int), (0 : Int),
                                                    (0 : Int), (0 : Int)),
                                                  (0 : Int), (0 : Int), [], [], (0 : Int), (0 : Int), (0 : Int), (0 : Int), (0 : Int), (0 : Int),
                                                  (0 : Int), false, (0 : Int), []))
                                              (7 : Nat) (Ty.int IntKind.u16).slice x10.1.1)).set
                                        y8.toNat
                                        (putD
                                          (((Ty.int IntKind.i64).pair
                                                ((Ty.int IntKind.i64).pair
                                                  ((Ty.int IntKind.i64).pair
                                                    ((Ty.int IntKind.u16).pair
                                                      ((Ty.int IntKind.u16).pair
                                                        ((Ty.int IntKind.u16).pair
                                                          (Ty.bool.slice.pair
                                                            ((Ty.int IntKind.u16).slice.pair
                                                              ((Ty.int IntKind.i64).pair
                                                                ((Ty.int IntKind.i64).pair
                                                                  ((Ty.int IntKind.i64).pair (Ty.int IntKind.i64)))))))))))).pair
                                            ((Ty.int IntKind.i64).pair
                                              ((Ty.int IntKind.i64).pair
                                                (Ty.bool.slice.pair
                                                  ((Ty.int IntKind.u16).slice.pair
                                                    ((Ty.int IntKind.i64).pair
                                                      ((Ty.int IntKind.i64).pair
                                                        ((Ty.int IntKind.u16).pair
                                                          ((Ty.int IntKind.u16).pair
                                                            ((Ty.int IntKind.u16).pair
                                                              ((Ty.int IntKind.i64).pair
                                                                ((Ty.int IntKind.i64).pair
                                                                  (Ty.bool.pair
                                                                    ((Ty.int IntKind.i64).pair ((Ty.int IntKind.i64).pair Ty.str).slice))))))))))))))
                                          (((y5.2.2.1.set y8.toNat
                                                    (putD
                                                      (((Ty.int IntKind.i64).pair
                                                            ((Ty.int IntKind.i64).pair
                                                              ((Ty.int IntKind.i64).pair
                                                                ((Ty.int IntKind.u16).pair
                                                                  ((Ty.int IntKind.u16).pair
                                                                    ((Ty.int IntKind.u16).pair
                                                                      (Ty.bool.slice.pair
                                                                        ((Ty.int IntKind.u16).slice.pair
                                                                          ((Ty.int IntKind.i64).pair
                                                                            ((Ty.int IntKind.i64).pair
                                                                              ((Ty.int IntKind.i64).pair (Ty.int IntKind.i64)))))))))))).pair
                                                        ((Ty.int IntKind.i64).pair
                                                          ((Ty.int IntKind.i64).pair
                                                            (Ty.bool.slice.pair
                                                              ((Ty.int IntKind.u16).slice.pair
                                                                ((Ty.int IntKind.i64).pair
                                                                  ((Ty.int IntKind.i64).pair
                                                                    ((Ty.int IntKind.u16).pair
                                                                      ((Ty.int IntKind.u16).pair
                                                                        ((Ty.int IntKind.u16).pair
                                                                          ((Ty.int IntKind.i64).pair
                                                                            ((Ty.int IntKind.i64).pair
                                                                              (Ty.bool.pair
                                                                                ((Ty.int IntKind.i64).pair
                                                                                  ((Ty.int IntKind.i64).pair Ty.str).slice))))))))))))))
                                                      (y5.2.2.1.getD y8.toNat
                                                        (((0 : Int), (0 : Int), (0 : Int), (0 : Int), (0 : Int), (0 : Int), [], [], (0 : Int),
                                                            (0 : Int), (0 : Int), (0 : Int)),
                                                          (0 : Int), (0 : Int), [], [], (0 : Int), (0 : Int), (0 : Int), (0 : Int), (0 : Int),
                                                          (0 : Int), (0 : Int), false, (0 : Int), []))
                                                      (6 : Nat) Ty.bool.slice x9.1.1)).set
                                                y8.toNat
                                                (putD
                                                  (((Ty.int IntKind.i64).pair
                                                        ((Ty.int IntKind.i64).pair
                                                          ((Ty.int IntKind.i64).pair
                                                            ((Ty.int IntKind.u16).pair
                                                              ((Ty.int IntKind.u16).pair
                                                                ((Ty.int IntKind.u16).pair
                                                                  (Ty.bool.slice.pair
                                                                    ((Ty.int IntKind.u16).slice.pair
                                                                      ((Ty.int IntKind.i64).pair
                                                                        ((Ty.int IntKind.i64).pair
                                                                          ((Ty.int IntKind.i64).pair (Ty.int IntKind.i64)))))))))))).pair
                                                    ((Ty.int IntKind.i64).pair
                                                      ((Ty.int IntKind.i64).pair
                                                        (Ty.bool.slice.pair
                                                          ((Ty.int IntKind.u16).slice.pair
                                                            ((Ty.int IntKind.i64).pair
                                                              ((Ty.int IntKind.i64).pair
                                                                ((Ty.int IntKind.u16).pair
                                                                  ((Ty.int IntKind.u16).pair
                                                                    ((Ty.int IntKind.u16).pair
                                                                      ((Ty.int IntKind.i64).pair
                                                                        ((Ty.int IntKind.i64).pair
                                                                          (Ty.bool.pair
                                                                            ((Ty.int IntKind.i64).pair
                                                                              ((Ty.int IntKind.i64).pair Ty.str).slice))))))))))))))
                                                  ((y5.2.2.1.set y8.toNat
                                                        (putD
                                                          (((Ty.int IntKind.i64).pair
                                                                ((Ty.int IntKind.i64).pair
                                                                  ((Ty.int IntKind.i64).pair
                                                                    ((Ty.int IntKind.u16).pair
                                                                      ((Ty.int IntKind.u16).pair
                                                                        ((Ty.int IntKind.u16).pair
                                                                          (Ty.bool.slice.pair
                                                                            ((Ty.int IntKind.u16).slice.pair
                                                                              ((Ty.int IntKind.i64).pair
                                                                                ((Ty.int IntKind.i64).pair
                                                                                  ((Ty.int IntKind.i64).pair (Ty.int IntKind.i64)))))))))))).pair
                                                            ((Ty.int IntKind.i64).pair
                                                              ((Ty.int IntKind.i64).pair
                                                                (Ty.bool.slice.pair
                                                                  ((Ty.int IntKind.u16).slice.pair
                                                                    ((Ty.int IntKind.i64).pair
                                                                      ((Ty.int IntKind.i64).pair
                                                                        ((Ty.int IntKind.u16).pair
                                                                          ((Ty.int IntKind.u16).pair
                                                                            ((Ty.int IntKind.u16).pair
                                                                              ((Ty.int IntKind.i64).pair
                                                                                ((Ty.int IntKind.i64).pair
                                                                                  (Ty.bool.pair
                                                                                    ((Ty.int IntKind.i64).pair
                                                                                      ((Ty.int IntKind.i64).pair Ty.str).slice))))))))))))))
                                                          (y5.2.2.1.getD y8.toNat
                                                            (((0 : Int), (0 : Int), (0 : Int), (0 : Int), (0 : Int), (0 : Int), [], [], (0 : Int),
                                                                (0 : Int), (0 : Int), (0 : Int)),
                                                              (0 : Int), (0 : Int), [], [], (0 : Int), (0 : Int), (0 : Int), (0 : Int), (0 : Int),
                                                              (0 : Int), (0 : Int), false, (0 : Int), []))
                                                          (6 : Nat) Ty.bool.slice x9.1.1)).getD
                                                    y8.toNat
                                                    (((0 : Int), (0 : Int), (0 : Int), (0 : Int), (0 : Int), (0 : Int), [], [], (0 : Int), (0 : Int),
                                                        (0 : Int), (0 : Int)),
                                                      (0 : Int), (0 : Int), [], [], (0 : Int), (0 : Int), (0 : Int), (0 : Int), (0 : Int), (0 : Int),
                                                      (0 : Int), false, (0 : Int), []))
                                                  (7 : Nat) (Ty.int IntKind.u16).slice x10.1.1)).getD
                                            y8.toNat
                                            (((0 : Int), (0 : Int), (0 : Int), (0 : Int), (0 : Int), (0 : Int), [], [], (0 : Int), (0 : Int),
                                                (0 : Int), (0 : Int)),
                                              (0 : Int), (0 : Int), [], [], (0 : Int), (0 : Int), (0 : Int), (0 : Int), (0 : Int), (0 : Int),
                                              (0 : Int), false, (0 : Int), []))
                                          (14 : Nat) Ty.bool.slice x11.1.1)).set
                                    y8.toNat
                                    (putD
                                      (((Ty.int IntKind.i64).pair
                                            ((Ty.int IntKind.i64).pair
                                              ((Ty.int IntKind.i64).pair
                                                ((Ty.int IntKind.u16).pair
                                                  ((Ty.int IntKind.u16).pair
                                                    ((Ty.int IntKind.u16).pair
                                                      (Ty.bool.slice.pair
                                                        ((Ty.int IntKind.u16).slice.pair
                                                          ((Ty.int IntKind.i64).pair
                                                            ((Ty.int IntKind.i64).pair ((Ty.int IntKind.i64).pair (Ty.int IntKind.i64)))))))))))).pair
                                        ((Ty.int IntKind.i64).pair
                                          ((Ty.int IntKind.i64).pair
                                            (Ty.bool.slice.pair
                                              ((Ty.int IntKind.u16).slice.pair
                                                ((Ty.int IntKind.i64).pair
                                                  ((Ty.int IntKind.i64).pair
                                                    ((Ty.int IntKind.u16).pair
                                                      ((Ty.int IntKind.u16).pair
                                                        ((Ty.int IntKind.u16).pair
                                                          ((Ty.int IntKind.i64).pair
                                                            ((Ty.int IntKind.i64).pair
                                                              (Ty.bool.pair
                                                                ((Ty.int IntKind.i64).pair ((Ty.int IntKind.i64).pair Ty.str).slice))))))))))))))
                                      ((((y5.2.2.1.set y8.toNat
                                                    (putD
                                                      (((Ty.int IntKind.i64).pair
                                                            ((Ty.int IntKind.i64).pair
                                                              ((Ty.int IntKind.i64).pair
                                                                ((Ty.int IntKind.u16).pair
                                                                  ((Ty.int IntKind.u16).pair
                                                                    ((Ty.int IntKind.u16).pair
                                                                      (Ty.bool.slice.pair
                                                                        ((Ty.int IntKind.u16).slice.pair
                                                                          ((Ty.int IntKind.i64).pair
                                                                            ((Ty.int IntKind.i64).pair
                                                                              ((Ty.int IntKind.i64).pair (Ty.int IntKind.i64)))))))))))).pair
                                                        ((Ty.int IntKind.i64).pair
                                                          ((Ty.int IntKind.i64).pair
                                                            (Ty.bool.slice.pair
                                                              ((Ty.int IntKind.u16).slice.pair
                                                                ((Ty.int IntKind.i64).pair
                                                                  ((Ty.int IntKind.i64).pair
                                                                    ((Ty.int IntKind.u16).pair
                                                                      ((Ty.int IntKind.u16).pair
                                                                        ((Ty.int IntKind.u16).pair
                                                                          ((Ty.int IntKind.i64).pair
                                                                            ((Ty.int IntKind.i64).pair
                                                                              (Ty.bool.pair
                                                                                ((Ty.int IntKind.i64).pair
                                                                                  ((Ty.int IntKind.i64).pair Ty.str).slice))))))))))))))
                                                      (y5.2.2.1.getD y8.toNat
                                                        (((0 : Int), (0 : Int), (0 : Int), (0 : Int), (0 : Int), (0 : Int), [], [], (0 : Int),
                                                            (0 : Int), (0 : Int), (0 : Int)),
                                                          (0 : Int), (0 : Int), [], [], (0 : Int), (0 : Int), (0 : Int), (0 : Int), (0 : Int),
                                                          (0 : Int), (0 : Int), false, (0 : Int), []))
                                                      (6 : Nat) Ty.bool.slice x9.1.1)).set
                                                y8.toNat
                                                (putD
                                                  (((Ty.int IntKind.i64).pair
                                                        ((Ty.int IntKind.i64).pair
                                                          ((Ty.int IntKind.i64).pair
                                                            ((Ty.int IntKind.u16).pair
                                                              ((Ty.int IntKind.u16).pair
                                                                ((Ty.int IntKind.u16).pair
                                                                  (Ty.bool.slice.pair
                                                                    ((Ty.int IntKind.u16).slice.pair
                                                                      ((Ty.int IntKind.i64).pair
                                                                        ((Ty.int IntKind.i64).pair
                                                                          ((Ty.int IntKind.i64).pair (Ty.int IntKind.i64)))))))))))).pair
                                                    ((Ty.int IntKind.i64).pair
                                                      ((Ty.int IntKind.i64).pair
                                                        (Ty.bool.slice.pair
                                                          ((Ty.int IntKind.u16).slice.pair
                                                            ((Ty.int IntKind.i64).pair
                                                              ((Ty.int IntKind.i64).pair
                                                                ((Ty.int IntKind.u16).pair
                                                                  ((Ty.int IntKind.u16).pair
                                                                    ((Ty.int IntKind.u16).pair
                                                                      ((Ty.int IntKind.i64).pair
                                                                        ((Ty.int IntKind.i64).pair
                                                                          (Ty.bool.pair
                                                                            ((Ty.int IntKind.i64).pair
                                                                              ((Ty.int IntKind.i64).pair Ty.str).slice))))))))))))))
                                                  ((y5.2.2.1.set y8.toNat
                                                        (putD
                                                          (((Ty.int IntKind.i64).pair
                                                                ((Ty.int IntKind.i64).pair
                                                                  ((Ty.int IntKind.i64).pair
                                                                    ((Ty.int IntKind.u16).pair
                                                                      ((Ty.int IntKind.u16).pair
                                                                        ((Ty.int IntKind.u16).pair
                                                                          (Ty.bool.slice.pair
                                                                            ((Ty.int IntKind.u16).slice.pair
                                                                              ((Ty.int IntKind.i64).pair
                                                                                ((Ty.int IntKind.i64).pair
                                                                                  ((Ty.int IntKind.i64).pair (Ty.int IntKind.i64)))))))))))).pair
                                                            ((Ty.int IntKind.i64).pair
                                                              ((Ty.int IntKind.i64).pair
                                                                (Ty.bool.slice.pair
                                                                  ((Ty.int IntKind.u16).slice.pair
                                                                    ((Ty.int IntKind.i64).pair
                                                                      ((Ty.int IntKind.i64).pair
                                                                        ((Ty.int IntKind.u16).pair
                                                                          ((Ty.int IntKind.u16).pair
                                                                            ((Ty.int IntKind.u16).pair
                                                                              ((Ty.int IntKind.i64).pair
                                                                                ((Ty.int IntKind.i64).pair
                                                                                  (Ty.bool.pair
                                                                                    ((Ty.int IntKind.i64).pair
                                                                                      ((Ty.int IntKind.i64).pair Ty.str).slice))))))))))))))
                                                          (y5.2.2.1.getD y8.toNat
                                                            (((0 : Int), (0 : Int), (0 : Int), (0 : Int), (0 : Int), (0 : Int), [], [], (0 : Int),
                                                                (0 : Int), (0 : Int), (0 : Int)),
                                                              (0 : Int), (0 : Int), [], [], (0 : Int), (0 : Int), (0 : Int), (0 : Int), (0 : Int),
                                                              (0 : Int), (0 : Int), false, (0 : Int), []))
                                                          (6 : Nat) Ty.bool.slice x9.1.1)).getD
                                                    y8.toNat
                                                    (((0 : Int), (0 : Int), (0 : Int), (0 : Int), (0 : Int), (0 : Int), [], [], (0 : Int), (0 : Int),
                                                        (0 : Int), (0 : Int)),
                                                      (0 : Int), (0 : Int), [], [], (0 : Int), (0 : Int), (0 : Int), (0 : Int), (0 : Int), (0 : Int),
                                                      (0 : Int), false, (0 : Int), []))
                                                  (7 : Nat) (Ty.int IntKind.u16).slice x10.1.1)).set
                                            y8.toNat
                                            (putD
                                              (((Ty.int IntKind.i64).pair
                                                    ((Ty.int IntKind.i64).pair
                                                      ((Ty.int IntKind.i64).pair
                                                        ((Ty.int IntKind.u16).pair
                                                          ((Ty.int IntKind.u16).pair
                                                            ((Ty.int IntKind.u16).pair
                                                              (Ty.bool.slice.pair
                                                                ((Ty.int IntKind.u16).slice.pair
                                                                  ((Ty.int IntKind.i64).pair
                                                                    ((Ty.int IntKind.i64).pair
                                                                      ((Ty.int IntKind.i64).pair (Ty.int IntKind.i64)))))))))))).pair
                                                ((Ty.int IntKind.i64).pair
                                                  ((Ty.int IntKind.i64).pair
                                                    (Ty.bool.slice.pair
                                                      ((Ty.int IntKind.u16).slice.pair
                                                        ((Ty.int IntKind.i64).pair
                                                          ((Ty.int IntKind.i64).pair
                                                            ((Ty.int IntKind.u16).pair
                                                              ((Ty.int IntKind.u16).pair
                                                                ((Ty.int IntKind.u16).pair
                                                                  ((Ty.int IntKind.i64).pair
                                                                    ((Ty.int IntKind.i64).pair
                                                                      (Ty.bool.pair
                                                                        ((Ty.int IntKind.i64).pair
                                                                          ((Ty.int IntKind.i64).pair Ty.str).slice))))))))))))))
                                              (((y5.2.2.1.set y8.toNat
                                                        (putD
                                                          (((Ty.int IntKind.i64).pair
                                                                ((Ty.int IntKind.i64).pair
                                                                  ((Ty.int IntKind.i64).pair
                                                                    ((Ty.int IntKind.u16).pair
                                                                      ((Ty.int IntKind.u16).pair
                                                                        ((Ty.int IntKind.u16).pair
                                                                          (Ty.bool.slice.pair
                                                                            ((Ty.int IntKind.u16).slice.pair
                                                                              ((Ty.int IntKind.i64).pair
                                                                                ((Ty.int IntKind.i64).pair
                                                                                  ((Ty.int IntKind.i64).pair (Ty.int IntKind.i64)))))))))))).pair
                                                            ((Ty.int IntKind.i64).pair
                                                              ((Ty.int IntKind.i64).pair
                                                                (Ty.bool.slice.pair
                                                                  ((Ty.int IntKind.u16).slice.pair
                                                                    ((Ty.int IntKind.i64).pair
                                                                      ((Ty.int IntKind.i64).pair
                                                                        ((Ty.int IntKind.u16).pair
                                                                          ((Ty.int IntKind.u16).pair
                                                                            ((Ty.int IntKind.u16).pair
                                                                              ((Ty.int IntKind.i64).pair
                                                                                ((Ty.int IntKind.i64).pair
                                                                                  (Ty.bool.pair
                                                                                    ((Ty.int IntKind.i64).pair
                                                                                      ((Ty.int IntKind.i64).pair Ty.str).slice))))))))))))))
                                                          (y5.2.2.1.getD y8.toNat
                                                            (((0 : Int), (0 : Int), (0 : Int), (0 : Int), (0 : Int), (0 : Int), [], [], (0 : Int),
                                                                (0 : Int), (0 : Int), (0 : Int)),
                                                              (0 : Int), (0 : Int), [], [], (0 : Int), (0 : Int), (0 : Int), (0 : Int), (0 : Int),
                                                              (0 : Int), (0 : Int), false, (0 : Int), []))
                                                          (6 : Nat) Ty.bool.slice x9.1.1)).set
                                                    y8.toNat
                                                    (putD
                                                      (((Ty.int IntKind.i64).pair
                                                            ((Ty.int IntKind.i64).pair
                                                              ((Ty.int IntKind.i64).pair
                                                                ((Ty.int IntKind.u16).pair
                                                                  ((Ty.int IntKind.u16).pair
                                                                    ((Ty.int IntKind.u16).pair
                                                                      (Ty.bool.slice.pair
                                                                        ((Ty.int IntKind.u16).slice.pair
                                                                          ((Ty.int IntKind.i64).pair
                                                                            ((Ty.int IntKind.i64).pair
                                                                              ((Ty.int IntKind.i64).pair (Ty.int IntKind.i64)))))))))))).pair
                                                        ((Ty.int IntKind.i64).pair
                                                          ((Ty.int IntKind.i64).pair
                                                            (Ty.bool.slice.pair
                                                              ((Ty.int IntKind.u16).slice.pair
                                                                ((Ty.int IntKind.i64).pair
                                                                  ((Ty.int IntKind.i64).pair
                                                                    ((Ty.int IntKind.u16).pair
                                                                      ((Ty.int IntKind.u16).pair
                                                                        ((Ty.int IntKind.u16).pair
                                                                          ((Ty.int IntKind.i64).pair
                                                                            ((Ty.int IntKind.i64).pair
                                                                              (Ty.bool.pair
                                                                                ((Ty.int IntKind.i64).pair
                                                                                  ((Ty.int IntKind.i64).pair Ty.str).slice))))))))))))))
                                                      ((y5.2.2.1.set y8.toNat
                                                            (putD
                                                              (((Ty.int IntKind.i64).pair
                                                                    ((Ty.int IntKind.i64).pair
                                                                      ((Ty.int IntKind.i64).pair
                                                                        ((Ty.int IntKind.u16).pair
                                                                          ((Ty.int IntKind.u16).pair
                                                                            ((Ty.int IntKind.u16).pair
                                                                              (Ty.bool.slice.pair
                                                                                ((Ty.int IntKind.u16).slice.pair
                                                                                  ((Ty.int IntKind.i64).pair
                                                                                    ((Ty.int IntKind.i64).pair
                                                                                      ((Ty.int IntKind.i64).pair (Ty.int IntKind.i64)))))))))))).pair
                                                                ((Ty.int IntKind.i64).pair
                                                                  ((Ty.int IntKind.i64).pair
                                                                    (Ty.bool.slice.pair
                                                                      ((Ty.int IntKind.u16).slice.pair
                                                                        ((Ty.int IntKind.i64).pair
                                                                          ((Ty.int IntKind.i64).pair
                                                                            ((Ty.int IntKind.u16).pair
                                                                              ((Ty.int IntKind.u16).pair
                                                                                ((Ty.int IntKind.u16).pair
                                                                                  ((Ty.int IntKind.i64).pair
                                                                                    ((Ty.int IntKind.i64).pair
                                                                                      (Ty.bool.pair
                                                                                        ((Ty.int IntKind.i64).pair
                                                                                          ((Ty.int IntKind.i64).pair Ty.str).slice))))))))))))))
                                                              (y5.2.2.1.getD y8.toNat
                                                                (((0 : Int), (0 : Int), (0 : Int), (0 : Int), (0 : Int), (0 : Int), [], [], (0 : Int),
                                                                    (0 : Int), (0 : Int), (0 : Int)),
                                                                  (0 : Int), (0 : Int), [], [], (0 : Int), (0 : Int), (0 : Int), (0 : Int), (0 : Int),
                                                                  (0 : Int), (0 : Int), false, (0 : Int), []))
                                                              (6 : Nat) Ty.bool.slice x9.1.1)).getD
                                                        y8.toNat
                                                        (((0 : Int), (0 : Int), (0 : Int), (0 : Int), (0 : Int), (0 : Int), [], [], (0 : Int),
                                                            (0 : Int), (0 : Int), (0 : Int)),
                                                          (0 : Int), (0 : Int), [], [], (0 : Int), (0 : Int), (0 : Int), (0 : Int), (0 : Int),
                                                          (0 : Int), (0 : Int), false, (0 : Int), []))
                                                      (7 : Nat) (Ty.int IntKind.u16).slice x10.1.1)).getD
                                                y8.toNat
                                                (((0 : Int), (0 : Int), (0 : Int), (0 : Int), (0 : Int), (0 : Int), [], [], (0 : Int), (0 : Int),
                                                    (0 : Int), (0 : Int)),
                                                  (0 : Int), (0 : Int), [], [], (0 : Int), (0 : Int), (0 : Int), (0 : Int), (0 : Int), (0 : Int),
                                                  (0 : Int), false, (0 : Int), []))
                                              (14 : Nat) Ty.bool.slice x11.1.1)).getD
                                        y8.toNat
                                        (((0 : Int), (0 : Int), (0 : Int), (0 : Int), (0 : Int), (0 : Int), [], [], (0 : Int), (0 : Int), (0 : Int),
                                            (0 : Int)),
                                          (0 : Int), (0 : Int), [], [], (0 : Int), (0 : Int), (0 : Int), (0 : Int), (0 : Int), (0 : Int), (0 : Int),
                                          false, (0 : Int), []))
                                      (15 : Nat) (Ty.int IntKind.u16).slice x12.1.1)).getD
                                y8.toNat
                                (((0 : Int), (0 : Int), (0 : Int), (0 : Int), (0 : Int), (0 : Int), [], [], (0 : Int), (0 : Int), (0 : Int),
                                    (0 : Int)),
                                  (0 : Int), (0 : Int), [], [], (0 : Int), (0 : Int), (0 : Int), (0 : Int), (0 : Int), (0 : Int), (0 : Int), false,
                                  (0 : Int), []))
                              (25 : Nat) ((Ty.int IntKind.i64).pair Ty.str).slice x13.1.1),
                          y5.2.2.2.1, ()),
                        (y6.1, y6.2.1, (), (), ()), y7, IntKind.i64.wrap (y8 + (1 : Int)), ()))
          none)
        none)
      none)
    none)
  (some (((y5.1, y5.2.1, y5.2.2.1, y5.2.2.2.1), ()), (), ()))
def own_P (K : Nat) (a0 : Bool ×
  Int ×
    List
        ((Int × Int × Int × Int × Int × Int × List Bool × List Int × Int × Int × Int × Int) ×
          Int × Int × List Bool × List Int × Int × Int × Int × Int × Int × Int × Int × Bool × Int × List (Int × ByteArray)) ×
      List
        ((Int × Int) ×
          Int)) : Option
  (((Bool ×
        Int ×
          List
              ((Int × Int × Int × Int × Int × Int × List Bool × List Int × Int × Int × Int × Int) ×
                Int × Int × List Bool × List Int × Int × Int × Int × Int × Int × Int × Int × Bool × Int × List (Int × ByteArray)) ×
            List ((Int × Int) × Int)) ×
      Unit) ×
    Unit × Unit) :=
  bd (grd (decide (a0.2.2.2.length < (1000000 : Nat))) ((a0.2.2.2, ()), (), ()))
  fun (x1 : (List ((Int × Int) × Int) × Unit) × Unit × Unit) =>
  bd (grd (decide (a0.2.2.1.length < (1000000 : Nat))) ((a0.2.2.1, ()), (), ()))
    fun
      (x2 :
        (List
              ((Int × Int × Int × Int × Int × Int × List Bool × List Int × Int × Int × Int × Int) ×
                Int × Int × List Bool × List Int × Int × Int × Int × Int × Int × Int × Int × Bool × Int × List (Int × ByteArray)) ×
            Unit) ×
          Unit × Unit) =>
    loopN own_L1 K
      ((a0.1, a0.2.1, x2.1.1, x1.1.1, ()), (false, (0 : Int), (), (), ()), (↑x2.1.1.length : Int), (0 : Int),
        ())
theorem own_rn (K : Nat) (a0 : Bool ×
  Int ×
    List
        ((Int × Int × Int × Int × Int × Int × List Bool × List Int × Int × Int × Int × Int) ×
          Int × Int × List Bool × List Int × Int × Int × Int × Int × Int × Int × Int × Bool × Int × List (Int × ByteArray)) ×
      List ((Int × Int) × Int)) : runF (cfgW g_own) K f_own own_tm [.val tDeed] [.val tDeed] (a0, ()) = own_P K a0 := by kernel_rfl
abbrev g_insSort : List (Nat × Ctr O0) := [(n_ordLess, c_ordLess)]
def insSort_tm : List Tm := [[((0 : Nat), some (0 : Nat),
      Sh.sub
        (Ty.bool.pair
          ((Ty.int IntKind.u64).pair
            ((((Ty.int IntKind.i64).pair
                        ((Ty.int IntKind.i64).pair
                          ((Ty.int IntKind.i64).pair
                            ((Ty.int IntKind.u16).pair
                              ((Ty.int IntKind.u16).pair
                                ((Ty.int IntKind.u16).pair
                                  (Ty.bool.slice.pair
                                    ((Ty.int IntKind.u16).slice.pair
                                      ((Ty.int IntKind.i64).pair
                                        ((Ty.int IntKind.i64).pair ((Ty.int IntKind.i64).pair (Ty.int IntKind.i64)))))))))))).pair
                    ((Ty.int IntKind.i64).pair
                      ((Ty.int IntKind.i64).pair
                        (Ty.bool.slice.pair
                          ((Ty.int IntKind.u16).slice.pair
                            ((Ty.int IntKind.i64).pair
                              ((Ty.int IntKind.i64).pair
                                ((Ty.int IntKind.u16).pair
                                  ((Ty.int IntKind.u16).pair
                                    ((Ty.int IntKind.u16).pair
                                      ((Ty.int IntKind.i64).pair
                                        ((Ty.int IntKind.i64).pair
                                          (Ty.bool.pair ((Ty.int IntKind.i64).pair ((Ty.int IntKind.i64).pair Ty.str).slice)))))))))))))).slice.pair
              (((Ty.int IntKind.i64).pair (Ty.int IntKind.i64)).pair (Ty.int IntKind.u16)).slice)))),
    ((1 : Nat), none, Sh.val (Ty.int IntKind.i64)), ((2 : Nat), none, Sh.val (Ty.int IntKind.i64)), ((3 : Nat), none, Sh.fn (66 : Nat)),
    ((8 : Nat), none, Sh.val (Ty.int IntKind.i64))],
  [((0 : Nat), some (0 : Nat),
      Sh.sub
        (Ty.bool.pair
          ((Ty.int IntKind.u64).pair
            ((((Ty.int IntKind.i64).pair
                        ((Ty.int IntKind.i64).pair
                          ((Ty.int IntKind.i64).pair
                            ((Ty.int IntKind.u16).pair
                              ((Ty.int IntKind.u16).pair
                                ((Ty.int IntKind.u16).pair
                                  (Ty.bool.slice.pair
                                    ((Ty.int IntKind.u16).slice.pair
                                      ((Ty.int IntKind.i64).pair
                                        ((Ty.int IntKind.i64).pair ((Ty.int IntKind.i64).pair (Ty.int IntKind.i64)))))))))))).pair
                    ((Ty.int IntKind.i64).pair
                      ((Ty.int IntKind.i64).pair
                        (Ty.bool.slice.pair
                          ((Ty.int IntKind.u16).slice.pair
                            ((Ty.int IntKind.i64).pair
                              ((Ty.int IntKind.i64).pair
                                ((Ty.int IntKind.u16).pair
                                  ((Ty.int IntKind.u16).pair
                                    ((Ty.int IntKind.u16).pair
                                      ((Ty.int IntKind.i64).pair
                                        ((Ty.int IntKind.i64).pair
                                          (Ty.bool.pair ((Ty.int IntKind.i64).pair ((Ty.int IntKind.i64).pair Ty.str).slice)))))))))))))).slice.pair
              (((Ty.int IntKind.i64).pair (Ty.int IntKind.i64)).pair (Ty.int IntKind.u16)).slice)))),
    ((1 : Nat), none, Sh.val (Ty.int IntKind.i64)), ((2 : Nat), none, Sh.val (Ty.int IntKind.i64)), ((3 : Nat), none, Sh.fn (66 : Nat)),
    ((8 : Nat), none, Sh.val (Ty.int IntKind.i64)), ((9 : Nat), none, Sh.val (Ty.int IntKind.i64))]]
def insSort_L1 (rec1 : (List
        (Bool ×
          Int ×
            List
                ((Int × Int × Int × Int × Int × Int × List Bool × List Int × Int × Int × Int × Int) ×
                  Int × Int × List Bool × List Int × Int × Int × Int × Int × Int × Int × Int × Bool × Int × List (Int × ByteArray)) ×
              List ((Int × Int) × Int)) ×
      Nat) ×
    Int × Int × Unit × Int × Unit →
  Option
    (Unit ×
      List
          (Bool ×
            Int ×
              List
                  ((Int × Int × Int × Int × Int × Int × List Bool × List Int × Int × Int × Int × Int) ×
                    Int × Int × List Bool × List Int × Int × Int × Int × Int × Int × Int × Int × Bool × Int × List (Int × ByteArray)) ×
                List ((Int × Int) × Int)) ×
        Unit ×
          Unit ×
            Unit ×
              Unit)) (rec8 : (List
        (Bool ×
          Int ×
            List
                ((Int × Int × Int × Int × Int × Int × List Bool × List Int × Int × Int × Int × Int) ×
                  Int × Int × List Bool × List Int × Int × Int × Int × Int × Int × Int × Int × Bool × Int × List (Int × ByteArray)) ×
              List ((Int × Int) × Int)) ×
      Nat) ×
    Int × Int × Unit × Int × Int × Unit →
  Option
    (Unit ×
      List
          (Bool ×
            Int ×
              List
                  ((Int × Int × Int × Int × Int × Int × List Bool × List Int × Int × Int × Int × Int) ×
                    Int × Int × List Bool × List Int × Int × Int × Int × Int × Int × Int × Int × Bool × Int × List (Int × ByteArray)) ×
                List ((Int × Int) × Int)) ×
        Unit ×
          Unit ×
            Unit ×
              Unit)) : (List
        (Bool ×
          Int ×
            List
                ((Int × Int × Int × Int × Int × Int × List Bool × List Int × Int × Int × Int × Int) ×
                  Int × Int × List Bool × List Int × Int × Int × Int × Int × Int × Int × Int × Bool × Int × List (Int × ByteArray)) ×
              List ((Int × Int) × Int)) ×
      Nat) ×
    Int × Int × Unit × Int × Int × Unit →
  Option
    (Unit ×
      List
          (Bool ×
            Int ×
              List
                  ((Int × Int × Int × Int × Int × Int × List Bool × List Int × Int × Int × Int × Int) ×
                    Int × Int × List Bool × List Int × Int × Int × Int × Int × Int × Int × Int × Bool × Int × List (Int × ByteArray)) ×
                List ((Int × Int) × Int)) ×
        Unit × Unit × Unit × Unit) := fun (y10, y11, y12, y13, y14, y15, ()) =>
  br (decide (y15 > y11))
  (br (decide ((0 : Int) ≤ y15))
    (br (decide (y15 < (↑y10.2 : Int)))
      (br (decide ((0 : Int) ≤ IntKind.i64.wrap (y15 - (1 : Int))))
        (br (decide (IntKind.i64.wrap (y15 - (1 : Int)) < (↑y10.2 : Int)))
          (br
            (decide
              (deedCmp
                  ((y10.1.getD y15.toNat (false, (0 : Int), [], [])).1, (y10.1.getD y15.toNat (false, (0 : Int), [], [])).2.1,
                    (y10.1.getD y15.toNat (false, (0 : Int), [], [])).2.2.1, (y10.1.getD y15.toNat (false, (0 : Int), [], [])).2.2.2)
                  ((y10.1.getD (IntKind.i64.wrap (y15 - (1 : Int))).toNat (false, (0 : Int), [], [])).1,
                    (y10.1.getD (IntKind.i64.wrap (y15 - (1 : Int))).toNat (false, (0 : Int), [], [])).2.1,
                    (y10.1.getD (IntKind.i64.wrap (y15 - (1 : Int))).toNat (false, (0 : Int), [], [])).2.2.1,
                    (y10.1.getD (IntKind.i64.wrap (y15 - (1 : Int))).toNat (false, (0 : Int), [], [])).2.2.2) <
                (0 : Int)))
            (br (decide ((0 : Int) ≤ IntKind.i64.wrap (y15 - (1 : Int))))
              (br (decide (IntKind.i64.wrap (y15 - (1 : Int)) < (↑y10.2 : Int)))
                (br (decide ((0 : Int) ≤ y15))
                  (br (decide (y15 < (↑y10.2 : Int)))
                    (br (decide ((0 : Int) ≤ y15))
                      (br (decide (y15 < (↑y10.2 : Int)))
                        (br (decide ((0 : Int) ≤ IntKind.i64.wrap (y15 - (1 : Int))))
                          (br (decide (IntKind.i64.wrap (y15 - (1 : Int)) < (↑y10.2 : Int)))
                            (rec8
                              (((y10.1.set y15.toNat
                                        ((y10.1.getD (IntKind.i64.wrap (y15 - (1 : Int))).toNat (false, (0 : Int), [], [])).1,
                                          (y10.1.getD (IntKind.i64.wrap (y15 - (1 : Int))).toNat (false, (0 : Int), [], [])).2.1,
                                          (y10.1.getD (IntKind.i64.wrap (y15 - (1 : Int))).toNat (false, (0 : Int), [], [])).2.2.1,
                                          (y10.1.getD (IntKind.i64.wrap (y15 - (1 : Int))).toNat (false, (0 : Int), [], [])).2.2.2)).set
                                    (IntKind.i64.wrap (y15 - (1 : Int))).toNat
                                    ((y10.1.getD y15.toNat (false, (0 : Int), [], [])).1, (y10.1.getD y15.toNat (false, (0 : Int), [], [])).2.1,
                                      (y10.1.getD y15.toNat (false, (0 : Int), [], [])).2.2.1,
                                      (y10.1.getD y15.toNat (false, (0 : Int), [], [])).2.2.2),
                                  y10.2),
                                y11, y12, (), y14, IntKind.i64.wrap (y15 - (1 : Int)), ()))
                            none)
                          none)
                        none)
                      none)
                    none)
                  none)
                none)
              none)
            (rec1 ((y10.1, y10.2), y11, y12, (), IntKind.i64.wrap (y14 + (1 : Int)), ())))
          none)
        none)
      none)
    none)
  (rec1 ((y10.1, y10.2), y11, y12, (), IntKind.i64.wrap (y14 + (1 : Int)), ()))
def insSort_L2 (K : Nat) (rec1 : (List
        (Bool ×
          Int ×
            List
                ((Int × Int × Int × Int × Int × Int × List Bool × List Int × Int × Int × Int × Int) ×
                  Int × Int × List Bool × List Int × Int × Int × Int × Int × Int × Int × Int × Bool × Int × List (Int × ByteArray)) ×
              List ((Int × Int) × Int)) ×
      Nat) ×
    Int × Int × Unit × Int × Unit →
  Option
    (Unit ×
      List
          (Bool ×
            Int ×
              List
                  ((Int × Int × Int × Int × Int × Int × List Bool × List Int × Int × Int × Int × Int) ×
                    Int × Int × List Bool × List Int × Int × Int × Int × Int × Int × Int × Int × Bool × Int × List (Int × ByteArray)) ×
                List ((Int × Int) × Int)) ×
        Unit ×
          Unit ×
            Unit ×
              Unit)) : (List
        (Bool ×
          Int ×
            List
                ((Int × Int × Int × Int × Int × Int × List Bool × List Int × Int × Int × Int × Int) ×
                  Int × Int × List Bool × List Int × Int × Int × Int × Int × Int × Int × Int × Bool × Int × List (Int × ByteArray)) ×
              List ((Int × Int) × Int)) ×
      Nat) ×
    Int × Int × Unit × Int × Unit →
  Option
    (Unit ×
      List
          (Bool ×
            Int ×
              List
                  ((Int × Int × Int × Int × Int × Int × List Bool × List Int × Int × Int × Int × Int) ×
                    Int × Int × List Bool × List Int × Int × Int × Int × Int × Int × Int × Int × Bool × Int × List (Int × ByteArray)) ×
                List ((Int × Int) × Int)) ×
        Unit × Unit × Unit × Unit) := fun (y3, y4, y5, y6, y7, ()) =>
  br (decide (y7 < y5)) (loopN (insSort_L1 rec1) K ((y3.1, y3.2), y4, y5, (), y7, y7, ()))
  (some ((), y3.1, (), (), (), ()))
def insSort_P (K : Nat) (a0 : List
    (Bool ×
      Int ×
        List
            ((Int × Int × Int × Int × Int × Int × List Bool × List Int × Int × Int × Int × Int) ×
              Int × Int × List Bool × List Int × Int × Int × Int × Int × Int × Int × Int × Bool × Int × List (Int × ByteArray)) ×
          List ((Int × Int) × Int)) ×
  Nat) (a1 : Int) (a2 : Int) (a3 : Unit) : Option
  (Unit ×
    List
        (Bool ×
          Int ×
            List
                ((Int × Int × Int × Int × Int × Int × List Bool × List Int × Int × Int × Int × Int) ×
                  Int × Int × List Bool × List Int × Int × Int × Int × Int × Int × Int × Int × Bool × Int × List (Int × ByteArray)) ×
              List ((Int × Int) × Int)) ×
      Unit × Unit × Unit × Unit) :=
  loopN (insSort_L2 K) K ((a0.1, a0.2), a1, a2, (), IntKind.i64.wrap (a1 + (1 : Int)), ())
theorem insSort_rn (K : Nat) (a0 : List
    (Bool ×
      Int ×
        List
            ((Int × Int × Int × Int × Int × Int × List Bool × List Int × Int × Int × Int × Int) ×
              Int × Int × List Bool × List Int × Int × Int × Int × Int × Int × Int × Int × Bool × Int × List (Int × ByteArray)) ×
          List ((Int × Int) × Int)) ×
  Nat) (a1 : Int) (a2 : Int) (a3 : Unit) : runF (cfgW g_insSort) K f_insSort insSort_tm [.row tDeed, .val tI, .val tI, .fn n_ordLess] [] (a0, a1, a2, a3, ()) = insSort_P K a0 a1 a2 a3 := by kernel_rfl
abbrev g_stable : List (Nat × Ctr O0) := [(n_insSort, c_insSort n_ordLess), (n_symMerge, c_symMerge n_ordLess)]
def stable_tm : List Tm := [[((0 : Nat), some (0 : Nat),
      Sh.sub
        (Ty.bool.pair
          ((Ty.int IntKind.u64).pair
            ((((Ty.int IntKind.i64).pair
                        ((Ty.int IntKind.i64).pair
                          ((Ty.int IntKind.i64).pair
                            ((Ty.int IntKind.u16).pair
                              ((Ty.int IntKind.u16).pair
                                ((Ty.int IntKind.u16).pair
                                  (Ty.bool.slice.pair
                                    ((Ty.int IntKind.u16).slice.pair
                                      ((Ty.int IntKind.i64).pair
                                        ((Ty.int IntKind.i64).pair ((Ty.int IntKind.i64).pair (Ty.int IntKind.i64)))))))))))).pair
                    ((Ty.int IntKind.i64).pair
                      ((Ty.int IntKind.i64).pair
                        (Ty.bool.slice.pair
                          ((Ty.int IntKind.u16).slice.pair
                            ((Ty.int IntKind.i64).pair
                              ((Ty.int IntKind.i64).pair
                                ((Ty.int IntKind.u16).pair
                                  ((Ty.int IntKind.u16).pair
                                    ((Ty.int IntKind.u16).pair
                                      ((Ty.int IntKind.i64).pair
                                        ((Ty.int IntKind.i64).pair
                                          (Ty.bool.pair ((Ty.int IntKind.i64).pair ((Ty.int IntKind.i64).pair Ty.str).slice)))))))))))))).slice.pair
              (((Ty.int IntKind.i64).pair (Ty.int IntKind.i64)).pair (Ty.int IntKind.u16)).slice)))),
    ((1 : Nat), none, Sh.val (Ty.int IntKind.i64)), ((2 : Nat), none, Sh.fn (66 : Nat)), ((6 : Nat), none, Sh.val (Ty.int IntKind.i64)),
    ((7 : Nat), none, Sh.val (Ty.int IntKind.i64)), ((8 : Nat), none, Sh.val (Ty.int IntKind.i64))],
  [((0 : Nat), some (0 : Nat),
      Sh.sub
        (Ty.bool.pair
          ((Ty.int IntKind.u64).pair
            ((((Ty.int IntKind.i64).pair
                        ((Ty.int IntKind.i64).pair
                          ((Ty.int IntKind.i64).pair
                            ((Ty.int IntKind.u16).pair
                              ((Ty.int IntKind.u16).pair
                                ((Ty.int IntKind.u16).pair
                                  (Ty.bool.slice.pair
                                    ((Ty.int IntKind.u16).slice.pair
                                      ((Ty.int IntKind.i64).pair
                                        ((Ty.int IntKind.i64).pair ((Ty.int IntKind.i64).pair (Ty.int IntKind.i64)))))))))))).pair
                    ((Ty.int IntKind.i64).pair
                      ((Ty.int IntKind.i64).pair
                        (Ty.bool.slice.pair
                          ((Ty.int IntKind.u16).slice.pair
                            ((Ty.int IntKind.i64).pair
                              ((Ty.int IntKind.i64).pair
                                ((Ty.int IntKind.u16).pair
                                  ((Ty.int IntKind.u16).pair
                                    ((Ty.int IntKind.u16).pair
                                      ((Ty.int IntKind.i64).pair
                                        ((Ty.int IntKind.i64).pair
                                          (Ty.bool.pair ((Ty.int IntKind.i64).pair ((Ty.int IntKind.i64).pair Ty.str).slice)))))))))))))).slice.pair
              (((Ty.int IntKind.i64).pair (Ty.int IntKind.i64)).pair (Ty.int IntKind.u16)).slice)))),
    ((1 : Nat), none, Sh.val (Ty.int IntKind.i64)), ((2 : Nat), none, Sh.fn (66 : Nat)), ((6 : Nat), none, Sh.val (Ty.int IntKind.i64))],
  []]
def stable_L1 (rec17 : Unit →
  Option
    (Unit ×
      List
          (Bool ×
            Int ×
              List
                  ((Int × Int × Int × Int × Int × Int × List Bool × List Int × Int × Int × Int × Int) ×
                    Int × Int × List Bool × List Int × Int × Int × Int × Int × Int × Int × Int × Bool × Int × List (Int × ByteArray)) ×
                List ((Int × Int) × Int)) ×
        Unit ×
          Unit ×
            Unit)) : Unit →
  Option
    (Unit ×
      List
          (Bool ×
            Int ×
              List
                  ((Int × Int × Int × Int × Int × Int × List Bool × List Int × Int × Int × Int × Int) ×
                    Int × Int × List Bool × List Int × Int × Int × Int × Int × Int × Int × Int × Bool × Int × List (Int × ByteArray)) ×
                List ((Int × Int) × Int)) ×
        Unit × Unit × Unit) := fun (()) =>
  none
def stable_L2 (K : Nat) (rec11 : (List
        (Bool ×
          Int ×
            List
                ((Int × Int × Int × Int × Int × Int × List Bool × List Int × Int × Int × Int × Int) ×
                  Int × Int × List Bool × List Int × Int × Int × Int × Int × Int × Int × Int × Bool × Int × List (Int × ByteArray)) ×
              List ((Int × Int) × Int)) ×
      Nat) ×
    Int × Unit × Int × Unit →
  Option
    (Unit ×
      List
          (Bool ×
            Int ×
              List
                  ((Int × Int × Int × Int × Int × Int × List Bool × List Int × Int × Int × Int × Int) ×
                    Int × Int × List Bool × List Int × Int × Int × Int × Int × Int × Int × Int × Bool × Int × List (Int × ByteArray)) ×
                List ((Int × Int) × Int)) ×
        Unit ×
          Unit ×
            Unit)) : (List
        (Bool ×
          Int ×
            List
                ((Int × Int × Int × Int × Int × Int × List Bool × List Int × Int × Int × Int × Int) ×
                  Int × Int × List Bool × List Int × Int × Int × Int × Int × Int × Int × Int × Bool × Int × List (Int × ByteArray)) ×
              List ((Int × Int) × Int)) ×
      Nat) ×
    Int × Unit × Int × Unit →
  Option
    (Unit ×
      List
          (Bool ×
            Int ×
              List
                  ((Int × Int × Int × Int × Int × Int × List Bool × List Int × Int × Int × Int × Int) ×
                    Int × Int × List Bool × List Int × Int × Int × Int × Int × Int × Int × Int × Bool × Int × List (Int × ByteArray)) ×
                List ((Int × Int) × Int)) ×
        Unit × Unit × Unit) := fun (y13, y14, y15, y16, ()) =>
  br (decide (y16 < y14)) (loopN stable_L1 K ()) (some ((), y13.1, (), (), ()))
def stable_L3 (K : Nat) (rec1 : (List
        (Bool ×
          Int ×
            List
                ((Int × Int × Int × Int × Int × Int × List Bool × List Int × Int × Int × Int × Int) ×
                  Int × Int × List Bool × List Int × Int × Int × Int × Int × Int × Int × Int × Bool × Int × List (Int × ByteArray)) ×
              List ((Int × Int) × Int)) ×
      Nat) ×
    Int × Unit × Int × Int × Int × Unit →
  Option
    (Unit ×
      List
          (Bool ×
            Int ×
              List
                  ((Int × Int × Int × Int × Int × Int × List Bool × List Int × Int × Int × Int × Int) ×
                    Int × Int × List Bool × List Int × Int × Int × Int × Int × Int × Int × Int × Bool × Int × List (Int × ByteArray)) ×
                List ((Int × Int) × Int)) ×
        Unit ×
          Unit ×
            Unit)) : (List
        (Bool ×
          Int ×
            List
                ((Int × Int × Int × Int × Int × Int × List Bool × List Int × Int × Int × Int × Int) ×
                  Int × Int × List Bool × List Int × Int × Int × Int × Int × Int × Int × Int × Bool × Int × List (Int × ByteArray)) ×
              List ((Int × Int) × Int)) ×
      Nat) ×
    Int × Unit × Int × Int × Int × Unit →
  Option
    (Unit ×
      List
          (Bool ×
            Int ×
              List
                  ((Int × Int × Int × Int × Int × Int × List Bool × List Int × Int × Int × Int × Int) ×
                    Int × Int × List Bool × List Int × Int × Int × Int × Int × Int × Int × Int × Bool × Int × List (Int × ByteArray)) ×
                List ((Int × Int) × Int)) ×
        Unit × Unit × Unit) := fun (y3, y4, y5, y6, y7, y8, ()) =>
  br (decide (y8 ≤ y4))
  (bd
    (grd
      (decide (y3.2 = y3.1.length) &&
        (decide ((0 : Int) ≤ y7) && (decide (y7 ≤ y8) && (decide (y8 ≤ (↑y3.2 : Int)) && decide (y3.2 ≤ (1000 : Nat))))))
      ((), sortSeg y3.1 y7 y8, (), (), (), ()))
    fun
      (x9 :
        Unit ×
          List
              (Bool ×
                Int ×
                  List
                      ((Int × Int × Int × Int × Int × Int × List Bool × List Int × Int × Int × Int × Int) ×
                        Int × Int × List Bool × List Int × Int × Int × Int × Int × Int × Int × Int × Bool × Int × List (Int × ByteArray)) ×
                    List ((Int × Int) × Int)) ×
            Unit × Unit × Unit × Unit) =>
    rec1 ((x9.2.1, y3.2), y4, (), y6, y8, IntKind.i64.wrap (y8 + y6), ()))
  (bd
    (grd
      (decide (y3.2 = y3.1.length) &&
        (decide ((0 : Int) ≤ y7) && (decide (y7 ≤ y4) && (decide (y4 ≤ (↑y3.2 : Int)) && decide (y3.2 ≤ (1000 : Nat))))))
      ((), sortSeg y3.1 y7 y4, (), (), (), ()))
    fun
      (x10 :
        Unit ×
          List
              (Bool ×
                Int ×
                  List
                      ((Int × Int × Int × Int × Int × Int × List Bool × List Int × Int × Int × Int × Int) ×
                        Int × Int × List Bool × List Int × Int × Int × Int × Int × Int × Int × Int × Bool × Int × List (Int × ByteArray)) ×
                    List ((Int × Int) × Int)) ×
            Unit × Unit × Unit × Unit) =>
    loopN (stable_L2 K) K ((x10.2.1, y3.2), y4, (), y6, ()))
def stable_P (K : Nat) (a0 : List
    (Bool ×
      Int ×
        List
            ((Int × Int × Int × Int × Int × Int × List Bool × List Int × Int × Int × Int × Int) ×
              Int × Int × List Bool × List Int × Int × Int × Int × Int × Int × Int × Int × Bool × Int × List (Int × ByteArray)) ×
          List ((Int × Int) × Int)) ×
  Nat) (a1 : Int) (a2 : Unit) : Option
  (Unit ×
    List
        (Bool ×
          Int ×
            List
                ((Int × Int × Int × Int × Int × Int × List Bool × List Int × Int × Int × Int × Int) ×
                  Int × Int × List Bool × List Int × Int × Int × Int × Int × Int × Int × Int × Bool × Int × List (Int × ByteArray)) ×
              List ((Int × Int) × Int)) ×
      Unit × Unit × Unit) :=
  loopN (stable_L3 K) K ((a0.1, a0.2), a1, (), (20 : Int), (0 : Int), (20 : Int), ())
theorem stable_rn (K : Nat) (a0 : List
    (Bool ×
      Int ×
        List
            ((Int × Int × Int × Int × Int × Int × List Bool × List Int × Int × Int × Int × Int) ×
              Int × Int × List Bool × List Int × Int × Int × Int × Int × Int × Int × Int × Bool × Int × List (Int × ByteArray)) ×
          List ((Int × Int) × Int)) ×
  Nat) (a1 : Int) (a2 : Unit) : runF (cfgW g_stable) K f_stable stable_tm [.row tDeed, .val tI, .fn n_ordLess] [] (a0, a1, a2, ()) = stable_P K a0 a1 a2 := by kernel_rfl
abbrev g_sortStable : List (Nat × Ctr O0) := [(n_stable, c_stable n_ordLess)]
def sortStable_tm : List Tm := []
def sortStable_P (K : Nat) (a0 : List
    (Bool ×
      Int ×
        List
            ((Int × Int × Int × Int × Int × Int × List Bool × List Int × Int × Int × Int × Int) ×
              Int × Int × List Bool × List Int × Int × Int × Int × Int × Int × Int × Int × Bool × Int × List (Int × ByteArray)) ×
          List ((Int × Int) × Int)) ×
  Nat) (a1 : Unit) : Option
  (Unit ×
    List
        (Bool ×
          Int ×
            List
                ((Int × Int × Int × Int × Int × Int × List Bool × List Int × Int × Int × Int × Int) ×
                  Int × Int × List Bool × List Int × Int × Int × Int × Int × Int × Int × Int × Bool × Int × List (Int × ByteArray)) ×
              List ((Int × Int) × Int)) ×
      Unit × Unit) :=
  bd
  (grd (decide (a0.2 = a0.1.length) && (decide ((↑a0.2 : Int) = (↑a0.2 : Int)) && decide (a0.2 ≤ (20 : Nat))))
    ((), sortD a0.1, (), (), ()))
  fun
    (x1 :
      Unit ×
        List
            (Bool ×
              Int ×
                List
                    ((Int × Int × Int × Int × Int × Int × List Bool × List Int × Int × Int × Int × Int) ×
                      Int × Int × List Bool × List Int × Int × Int × Int × Int × Int × Int × Int × Bool × Int × List (Int × ByteArray)) ×
                  List ((Int × Int) × Int)) ×
          Unit × Unit × Unit) =>
  some ((), x1.2.1, (), ())
theorem sortStable_rn (K : Nat) (a0 : List
    (Bool ×
      Int ×
        List
            ((Int × Int × Int × Int × Int × Int × List Bool × List Int × Int × Int × Int × Int) ×
              Int × Int × List Bool × List Int × Int × Int × Int × Int × Int × Int × Int × Bool × Int × List (Int × ByteArray)) ×
          List ((Int × Int) × Int)) ×
  Nat) (a1 : Unit) : runF (cfgW g_sortStable) K f_sortStable sortStable_tm [.row tDeed, .fn n_ordLess] [] (a0, a1, ()) = sortStable_P K a0 a1 := by kernel_rfl
abbrev g_forder : List (Nat × Ctr O0) := [(n_own, c_own), (n_sortStable, c_sortStable n_ordLess)]
def forder_tm : List Tm := [[((3 : Nat), none,
      Sh.own
        (Ty.bool.pair
          ((Ty.int IntKind.u64).pair
            ((((Ty.int IntKind.i64).pair
                        ((Ty.int IntKind.i64).pair
                          ((Ty.int IntKind.i64).pair
                            ((Ty.int IntKind.u16).pair
                              ((Ty.int IntKind.u16).pair
                                ((Ty.int IntKind.u16).pair
                                  (Ty.bool.slice.pair
                                    ((Ty.int IntKind.u16).slice.pair
                                      ((Ty.int IntKind.i64).pair
                                        ((Ty.int IntKind.i64).pair ((Ty.int IntKind.i64).pair (Ty.int IntKind.i64)))))))))))).pair
                    ((Ty.int IntKind.i64).pair
                      ((Ty.int IntKind.i64).pair
                        (Ty.bool.slice.pair
                          ((Ty.int IntKind.u16).slice.pair
                            ((Ty.int IntKind.i64).pair
                              ((Ty.int IntKind.i64).pair
                                ((Ty.int IntKind.u16).pair
                                  ((Ty.int IntKind.u16).pair
                                    ((Ty.int IntKind.u16).pair
                                      ((Ty.int IntKind.i64).pair
                                        ((Ty.int IntKind.i64).pair
                                          (Ty.bool.pair ((Ty.int IntKind.i64).pair ((Ty.int IntKind.i64).pair Ty.str).slice)))))))))))))).slice.pair
              (((Ty.int IntKind.i64).pair (Ty.int IntKind.i64)).pair (Ty.int IntKind.u16)).slice)))),
    ((9 : Nat), none,
      Sh.val
        (Ty.bool.pair
            ((Ty.int IntKind.u64).pair
              ((((Ty.int IntKind.i64).pair
                          ((Ty.int IntKind.i64).pair
                            ((Ty.int IntKind.i64).pair
                              ((Ty.int IntKind.u16).pair
                                ((Ty.int IntKind.u16).pair
                                  ((Ty.int IntKind.u16).pair
                                    (Ty.bool.slice.pair
                                      ((Ty.int IntKind.u16).slice.pair
                                        ((Ty.int IntKind.i64).pair
                                          ((Ty.int IntKind.i64).pair ((Ty.int IntKind.i64).pair (Ty.int IntKind.i64)))))))))))).pair
                      ((Ty.int IntKind.i64).pair
                        ((Ty.int IntKind.i64).pair
                          (Ty.bool.slice.pair
                            ((Ty.int IntKind.u16).slice.pair
                              ((Ty.int IntKind.i64).pair
                                ((Ty.int IntKind.i64).pair
                                  ((Ty.int IntKind.u16).pair
                                    ((Ty.int IntKind.u16).pair
                                      ((Ty.int IntKind.u16).pair
                                        ((Ty.int IntKind.i64).pair
                                          ((Ty.int IntKind.i64).pair
                                            (Ty.bool.pair ((Ty.int IntKind.i64).pair ((Ty.int IntKind.i64).pair Ty.str).slice)))))))))))))).slice.pair
                (((Ty.int IntKind.i64).pair (Ty.int IntKind.i64)).pair (Ty.int IntKind.u16)).slice))).slice),
    ((10 : Nat), none, Sh.val (Ty.int IntKind.i64)), ((11 : Nat), none, Sh.val (Ty.int IntKind.i64))]]
def forder_L1 (rec1 : List
      (Bool ×
        Int ×
          List
              ((Int × Int × Int × Int × Int × Int × List Bool × List Int × Int × Int × Int × Int) ×
                Int × Int × List Bool × List Int × Int × Int × Int × Int × Int × Int × Int × Bool × Int × List (Int × ByteArray)) ×
            List ((Int × Int) × Int)) ×
    List
        (Bool ×
          Int ×
            List
                ((Int × Int × Int × Int × Int × Int × List Bool × List Int × Int × Int × Int × Int) ×
                  Int × Int × List Bool × List Int × Int × Int × Int × Int × Int × Int × Int × Bool × Int × List (Int × ByteArray)) ×
              List ((Int × Int) × Int)) ×
      Int × Int × Unit →
  Option
    ((List
          (Bool ×
            Int ×
              List
                  ((Int × Int × Int × Int × Int × Int × List Bool × List Int × Int × Int × Int × Int) ×
                    Int × Int × List Bool × List Int × Int × Int × Int × Int × Int × Int × Int × Bool × Int × List (Int × ByteArray)) ×
                List ((Int × Int) × Int)) ×
        Unit) ×
      Unit ×
        Unit)) : List
      (Bool ×
        Int ×
          List
              ((Int × Int × Int × Int × Int × Int × List Bool × List Int × Int × Int × Int × Int) ×
                Int × Int × List Bool × List Int × Int × Int × Int × Int × Int × Int × Int × Bool × Int × List (Int × ByteArray)) ×
            List ((Int × Int) × Int)) ×
    List
        (Bool ×
          Int ×
            List
                ((Int × Int × Int × Int × Int × Int × List Bool × List Int × Int × Int × Int × Int) ×
                  Int × Int × List Bool × List Int × Int × Int × Int × Int × Int × Int × Int × Bool × Int × List (Int × ByteArray)) ×
              List ((Int × Int) × Int)) ×
      Int × Int × Unit →
  Option
    ((List
          (Bool ×
            Int ×
              List
                  ((Int × Int × Int × Int × Int × Int × List Bool × List Int × Int × Int × Int × Int) ×
                    Int × Int × List Bool × List Int × Int × Int × Int × Int × Int × Int × Int × Bool × Int × List (Int × ByteArray)) ×
                List ((Int × Int) × Int)) ×
        Unit) ×
      Unit × Unit) := fun (y3, y4, y5, y6, ()) =>
  br (decide (y6 < y5))
  (br (decide ((0 : Int) ≤ y6))
    (br (decide (y6 < (↑y4.length : Int)))
      (bd
        (grd
          (deedOk
            ((y4.getD y6.toNat (false, (0 : Int), [], [])).1, (y4.getD y6.toNat (false, (0 : Int), [], [])).2.1,
              (y4.getD y6.toNat (false, (0 : Int), [], [])).2.2.1, (y4.getD y6.toNat (false, (0 : Int), [], [])).2.2.2))
          ((((y4.getD y6.toNat (false, (0 : Int), [], [])).1, (y4.getD y6.toNat (false, (0 : Int), [], [])).2.1,
                (y4.getD y6.toNat (false, (0 : Int), [], [])).2.2.1, (y4.getD y6.toNat (false, (0 : Int), [], [])).2.2.2),
              ()),
            (), ()))
        fun
          (x7 :
            ((Bool ×
                  Int ×
                    List
                        ((Int × Int × Int × Int × Int × Int × List Bool × List Int × Int × Int × Int × Int) ×
                          Int × Int × List Bool × List Int × Int × Int × Int × Int × Int × Int × Int × Bool × Int × List (Int × ByteArray)) ×
                      List ((Int × Int) × Int)) ×
                Unit) ×
              Unit × Unit) =>
        br (decide ((0 : Int) ≤ y6))
          (br (decide (y6 < (↑y3.length : Int)))
            (rec1 (y3.set y6.toNat (x7.1.1.1, x7.1.1.2.1, x7.1.1.2.2.1, x7.1.1.2.2.2), y4, y5, IntKind.i64.wrap (y6 + (1 : Int)), ())) none)
          none)
      none)
    none)
  (bd (grd (decide (y3.length = y3.length) && decide (y3.length ≤ (20 : Nat))) ((), sortD y3, (), ()))
    fun
      (x8 :
        Unit ×
          List
              (Bool ×
                Int ×
                  List
                      ((Int × Int × Int × Int × Int × Int × List Bool × List Int × Int × Int × Int × Int) ×
                        Int × Int × List Bool × List Int × Int × Int × Int × Int × Int × Int × Int × Bool × Int × List (Int × ByteArray)) ×
                    List ((Int × Int) × Int)) ×
            Unit × Unit) =>
    some ((x8.2.1, ()), (), ()))
def forder_P (K : Nat) (a0 : List
  (Bool ×
    Int ×
      List
          ((Int × Int × Int × Int × Int × Int × List Bool × List Int × Int × Int × Int × Int) ×
            Int × Int × List Bool × List Int × Int × Int × Int × Int × Int × Int × Int × Bool × Int × List (Int × ByteArray)) ×
        List
          ((Int × Int) ×
            Int))) : Option
  ((List
        (Bool ×
          Int ×
            List
                ((Int × Int × Int × Int × Int × Int × List Bool × List Int × Int × Int × Int × Int) ×
                  Int × Int × List Bool × List Int × Int × Int × Int × Int × Int × Int × Int × Bool × Int × List (Int × ByteArray)) ×
              List ((Int × Int) × Int)) ×
      Unit) ×
    Unit × Unit) :=
  br (decide ((↑a0.length : Int) ≤ (↑a0.length : Int)))
  (br (decide ((↑a0.length : Int).toNat * (64 : Nat) ≤ LIM))
    (br (decide ((↑a0.length : Int).toNat ≤ LIM))
      (loopN forder_L1 K (List.replicate (↑a0.length : Int).toNat (false, (0 : Int), [], []), a0, (↑a0.length : Int), (0 : Int), ())) none)
    none)
  none
theorem forder_rn (K : Nat) (a0 : List
  (Bool ×
    Int ×
      List
          ((Int × Int × Int × Int × Int × Int × List Bool × List Int × Int × Int × Int × Int) ×
            Int × Int × List Bool × List Int × Int × Int × Int × Int × Int × Int × Int × Bool × Int × List (Int × ByteArray)) ×
        List
          ((Int × Int) ×
            Int))) : runF (cfgW g_forder) K f_forder forder_tm [.val (.slice tDeed)] [.own tDeed] (a0, ()) = forder_P K a0 := by kernel_rfl
abbrev g_fnew : List (Nat × Ctr O0) := []
def fnew_tm : List Tm := []
def fnew_P (K : Nat) : Option (((List ((Int × Int) × Int) × Unit) × Unit) × Unit) :=
  some ((([], ()), ()), ())
theorem fnew_rn (K : Nat) : runF (cfgW g_fnew) K f_fnew fnew_tm [] [.box shFile] (()) = fnew_P K := by kernel_rfl
abbrev g_fset : List (Nat × Ctr O0) := [(n_ckey, c_ckey)]
def fset_tm : List Tm := [[((0 : Nat), some (0 : Nat), ((Sh.map (MapK.map ((Ty.int IntKind.i64).pair (Ty.int IntKind.i64)) (Ty.int IntKind.u16))).cons Sh.unit).ptr),
    ((6 : Nat), none, Sh.val (((Ty.int IntKind.i64).pair (Ty.int IntKind.i64)).pair (Ty.int IntKind.u16)).slice),
    ((7 : Nat), none, Sh.val (Ty.int IntKind.i64)), ((8 : Nat), none, Sh.val (Ty.int IntKind.i64))]]
def fset_L1 (rec1 : (List ((Int × Int) × Int) × Unit) × List ((Int × Int) × Int) × Int × Int × Unit →
  Option
    (Unit ×
      (List ((Int × Int) × Int) × Unit) ×
        Unit ×
          Unit)) : (List ((Int × Int) × Int) × Unit) × List ((Int × Int) × Int) × Int × Int × Unit →
  Option (Unit × (List ((Int × Int) × Int) × Unit) × Unit × Unit) := fun (y3, y4, y5, y6, ()) =>
  br (decide (y6 < y5))
  (br (decide ((0 : Int) ≤ y6))
    (br (decide (y6 < (↑y4.length : Int)))
      (br (keyR ((y4.getD y6.toNat (((0 : Int), (0 : Int)), (0 : Int))).1.1, (y4.getD y6.toNat (((0 : Int), (0 : Int)), (0 : Int))).1.2))
        (rec1
          ((mset (eqD ((Ty.int IntKind.i64).pair (Ty.int IntKind.i64))) y3.1
                ((y4.getD y6.toNat (((0 : Int), (0 : Int)), (0 : Int))).1.1, (y4.getD y6.toNat (((0 : Int), (0 : Int)), (0 : Int))).1.2)
                (y4.getD y6.toNat (((0 : Int), (0 : Int)), (0 : Int))).2,
              ()),
            y4, y5, IntKind.i64.wrap (y6 + (1 : Int)), ()))
        (rec1 ((y3.1, ()), y4, y5, IntKind.i64.wrap (y6 + (1 : Int)), ())))
      none)
    none)
  (some ((), (y3.1, ()), (), ()))
def fset_P (K : Nat) (a0 : List ((Int × Int) × Int) ×
  Unit) (a1 : List ((Int × Int) × Int)) : Option (Unit × (List ((Int × Int) × Int) × Unit) × Unit × Unit) :=
  loopN fset_L1 K ((a0.1, ()), a1, (↑a1.length : Int), (0 : Int), ())
theorem fset_rn (K : Nat) (a0 : List ((Int × Int) × Int) ×
  Unit) (a1 : List
  ((Int × Int) × Int)) : runF (cfgW g_fset) K f_fset fset_tm [.box shFile, .val (.slice tCell)] [] (a0, a1, ()) = fset_P K a0 a1 := by kernel_rfl
abbrev g_fget : List (Nat × Ctr O0) := []
def fget_tm : List Tm := []
def fget_P (K : Nat) (a0 : List ((Int × Int) × Int) ×
  Unit) (a1 : Int × Int) : Option ((Int × Unit) × (List ((Int × Int) × Int) × Unit) × Unit × Unit) :=
  some
  ((mgetD (eqD ((Ty.int IntKind.i64).pair (Ty.int IntKind.i64))) a0.1 (a1.1, a1.2) (0 : Int), ()), (a0.1, ()), (), ())
theorem fget_rn (K : Nat) (a0 : List ((Int × Int) × Int) ×
  Unit) (a1 : Int × Int) : runF (cfgW g_fget) K f_fget fget_tm [.box shFile, .val tKey] [.val tW] (a0, a1, ()) = fget_P K a0 a1 := by kernel_rfl
abbrev g_awake27 : List (Nat × Ctr O0) := [(n_forder, c_forder), (n_fnew, c_fnew), (n_fset, c_fset), (n_fget, c_fget)]
theorem awake27_rn : runF (cfgW g_awake27) 3 f_awake27 [] [] [.val .bool] () = some ((true, ()), ()) := by kernel_rfl
end
end Go.BB
