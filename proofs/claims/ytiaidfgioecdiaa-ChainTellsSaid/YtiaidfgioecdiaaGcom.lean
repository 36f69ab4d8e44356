/- A symbolic machine for the model's code, and what it shows of this seat's functions. No conditions. -/
import Derived.Test.YtiaidfgioecdiaaN
import Derived.Test.YtiaidfgioecdiaaSCom
set_option linter.unusedSimpArgs false
set_option linter.unusedVariables false
namespace Go.BB
open Go Go.Proofs
set_option maxRecDepth 100000
set_option exponentiation.threshold 100000
noncomputable section
abbrev g_within : List (Nat × Ctr O0) := []
def within_tm : List (List (Nat × SSh O0)) := []
def within_P (K : Nat) (a0 : Int) (a1 : Int) : Option ((Int × Unit) × Unit × Unit × Unit) :=
  br (!decide (a1 = (0 : Int)))
  (br (decide (a0.tmod a1 < (0 : Int))) (some ((IntKind.i64.wrap (a0.tmod a1 + a1), ()), (), (), ()))
    (some ((a0.tmod a1, ()), (), (), ())))
  none
theorem within_rn (K : Nat) (a0 : Int) (a1 : Int) : runF (cfgW g_within) K f_within within_tm [.val tI, .val tI] [.val tI] (a0, a1, ()) = within_P K a0 a1 := by kernel_rfl
abbrev g_digit : List (Nat × Ctr O0) := [(n_within, c_within)]
def digit_tm : List (List (Nat × SSh O0)) := []
def digit_P (K : Nat) (a0 : Int) (a1 : Int) (a2 : Int) : Option ((Int × Unit) × Unit × Unit × Unit × Unit) :=
  br (!decide (a1 = (0 : Int)))
  (bd
    (grd (decide ((0 : Int) < a2) && decide (a2 < (4611686018427387904 : Int)))
      ((IntKind.i64.wrap (a0.tdiv a1) % a2, ()), (), (), ()))
    fun (x1 : (Int × Unit) × Unit × Unit × Unit) => some ((x1.1.1, ()), (), (), (), ()))
  none
theorem digit_rn (K : Nat) (a0 : Int) (a1 : Int) (a2 : Int) : runF (cfgW g_digit) K f_digit digit_tm [.val tI, .val tI, .val tI] [.val tI] (a0, a1, a2, ()) = digit_P K a0 a1 a2 := by kernel_rfl
abbrev g_lentBits : List (Nat × Ctr O0) := []
def lentBits_tm : List (List (Nat × SSh O0)) := [[((0 : Nat), SSh.one (CSh.ro Ty.bool)), ((3 : Nat), SSh.one (CSh.own Ty.bool)), ((4 : Nat), SSh.one (CSh.int IntKind.i64))]]
def lentBits_L1 (rec1 : List Bool × List Bool × Int × Unit →
  Option
    (((List Bool × Nat) × Unit) ×
      Unit × Unit)) : List Bool × List Bool × Int × Unit → Option (((List Bool × Nat) × Unit) × Unit × Unit) := fun (y3, y4, y5, ()) =>
  br (decide (y5 < (↑y4.length : Int)))
  (br (decide ((0 : Int) ≤ y5))
    (br (decide (y5 < (↑y4.length : Int))) (rec1 (y3, y4.set y5.toNat true, IntKind.i64.wrap (y5 + (1 : Int)), ())) none) none)
  (br (decide ((↑y3.length : Int) ≤ (↑y4.length : Int))) (some (((y4, (↑y3.length : Int).toNat), ()), (), ())) none)
def lentBits_P (K : Nat) (a0 : List Bool) : Option (((List Bool × Nat) × Unit) × Unit × Unit) :=
  br (decide ((0 : Int) ≤ IntKind.i64.wrap ((↑a0.length : Int) + (3 : Int))))
  (br (decide (IntKind.i64.wrap ((↑a0.length : Int) + (3 : Int)) ≤ IntKind.i64.wrap ((↑a0.length : Int) + (3 : Int))))
    (br (decide ((IntKind.i64.wrap ((↑a0.length : Int) + (3 : Int))).toNat * (1 : Nat) ≤ LIM))
      (br (decide ((IntKind.i64.wrap ((↑a0.length : Int) + (3 : Int))).toNat ≤ LIM))
        (loopN lentBits_L1 K
          (a0,
            splice (List.replicate (IntKind.i64.wrap ((↑a0.length : Int) + (3 : Int))).toNat false) a0 (0 : Nat)
              (List.replicate (IntKind.i64.wrap ((↑a0.length : Int) + (3 : Int))).toNat false).length,
            (↑a0.length : Int), ()))
        none)
      none)
    none)
  none
theorem lentBits_rn (K : Nat) (a0 : List
  Bool) : runF (cfgW g_lentBits) K f_lentBits lentBits_tm [.val (.slice .bool)] [.sub .bool] (a0, ()) = lentBits_P K a0 := by kernel_rfl
abbrev g_staysBits : List (Nat × Ctr O0) := []
def staysBits_tm : List (List (Nat × SSh O0)) := [[((1 : Nat), SSh.one (CSh.ro Ty.bool)), ((5 : Nat), SSh.one (CSh.parR (0 : Nat) Ty.bool)), ((6 : Nat), SSh.one (CSh.int IntKind.i64))]]
def staysBits_L1 (rec1 : List Bool × (List Bool × Nat) × Int × Unit →
  Option
    ((Bool × Unit) ×
      List Bool ×
        Unit × Unit)) : List Bool × (List Bool × Nat) × Int × Unit → Option ((Bool × Unit) × List Bool × Unit × Unit) := fun (y3, y4, y5, ()) =>
  br (decide (y5 < (↑y4.2 : Int)))
  (br (decide (y5 < (↑y3.length : Int)))
    (br (decide ((0 : Int) ≤ y5))
      (br (decide (y5 < (↑y4.2 : Int)))
        (br (decide ((0 : Int) ≤ y5))
          (br (decide (y5 < (↑y3.length : Int)))
            (br (!y4.1.getD y5.toNat false == y3.getD y5.toNat false) (some ((false, ()), y4.1, (), ()))
              (br (decide (y5 ≥ (↑y3.length : Int)))
                (br (decide ((0 : Int) ≤ y5))
                  (br (decide (y5 < (↑y4.2 : Int)))
                    (br (!y4.1.getD y5.toNat false == true) (some ((false, ()), y4.1, (), ()))
                      (rec1 (y3, (y4.1, y4.2), IntKind.i64.wrap (y5 + (1 : Int)), ())))
                    none)
                  none)
                (rec1 (y3, (y4.1, y4.2), IntKind.i64.wrap (y5 + (1 : Int)), ()))))
            none)
          none)
        none)
      none)
    (br (decide (y5 ≥ (↑y3.length : Int)))
      (br (decide ((0 : Int) ≤ y5))
        (br (decide (y5 < (↑y4.2 : Int)))
          (br (!y4.1.getD y5.toNat false == true) (some ((false, ()), y4.1, (), ()))
            (rec1 (y3, (y4.1, y4.2), IntKind.i64.wrap (y5 + (1 : Int)), ())))
          none)
        none)
      (rec1 (y3, (y4.1, y4.2), IntKind.i64.wrap (y5 + (1 : Int)), ()))))
  (some ((true, ()), y4.1, (), ()))
def staysBits_P (K : Nat) (a0 : List Bool × Nat) (a1 : List Bool) : Option ((Bool × Unit) × List Bool × Unit × Unit) :=
  br ((↑a0.2 : Int) != (↑a1.length : Int)) (some ((false, ()), a0.1, (), ()))
  (br (decide ((0 : Int) ≤ IntKind.i64.wrap ((↑a1.length : Int) + (3 : Int))))
    (br (decide (IntKind.i64.wrap ((↑a1.length : Int) + (3 : Int)) ≤ (↑(a0.1.length - (0 : Nat)) : Int)))
      (loopN staysBits_L1 K (a1, (a0.1, (IntKind.i64.wrap ((↑a1.length : Int) + (3 : Int))).toNat), (0 : Int), ())) none)
    none)
theorem staysBits_rn (K : Nat) (a0 : List Bool ×
  Nat) (a1 : List
  Bool) : runF (cfgW g_staysBits) K f_staysBits staysBits_tm [.row .bool, .val (.slice .bool)] [.val .bool] (a0, a1, ()) = staysBits_P K a0 a1 := by kernel_rfl
abbrev g_sameBits : List (Nat × Ctr O0) := []
def sameBits_tm : List (List (Nat × SSh O0)) := [[((0 : Nat), SSh.one (CSh.ro Ty.bool)), ((1 : Nat), SSh.one (CSh.ro Ty.bool)), ((5 : Nat), SSh.one (CSh.int IntKind.i64))]]
def sameBits_L1 (rec1 : List Bool × List Bool × Int × Unit →
  Option
    ((Bool × Unit) ×
      Unit × Unit × Unit)) : List Bool × List Bool × Int × Unit → Option ((Bool × Unit) × Unit × Unit × Unit) := fun (y3, y4, y5, ()) =>
  br (decide (y5 < (↑y3.length : Int)))
  (br (decide ((0 : Int) ≤ y5))
    (br (decide (y5 < (↑y3.length : Int)))
      (br (decide ((0 : Int) ≤ y5))
        (br (decide (y5 < (↑y4.length : Int)))
          (br (!y3.getD y5.toNat false == y4.getD y5.toNat false) (some ((false, ()), (), (), ()))
            (rec1 (y3, y4, IntKind.i64.wrap (y5 + (1 : Int)), ())))
          none)
        none)
      none)
    none)
  (some ((true, ()), (), (), ()))
def sameBits_P (K : Nat) (a0 : List Bool) (a1 : List Bool) : Option ((Bool × Unit) × Unit × Unit × Unit) :=
  br ((↑a0.length : Int) != (↑a1.length : Int)) (some ((false, ()), (), (), ()))
  (loopN sameBits_L1 K (a0, a1, (0 : Int), ()))
theorem sameBits_rn (K : Nat) (a0 : List
  Bool) (a1 : List
  Bool) : runF (cfgW g_sameBits) K f_sameBits sameBits_tm [.val (.slice .bool), .val (.slice .bool)] [.val .bool] (a0, a1, ()) = sameBits_P K a0 a1 := by kernel_rfl
abbrev g_lentBytes : List (Nat × Ctr O0) := []
def lentBytes_tm : List (List (Nat × SSh O0)) := [[((0 : Nat), SSh.one (CSh.ro (Ty.int IntKind.u8))), ((3 : Nat), SSh.one (CSh.own (Ty.int IntKind.u8))), ((4 : Nat), SSh.one (CSh.int IntKind.i64))]]
def lentBytes_L1 (rec1 : List Int × List Int × Int × Unit →
  Option
    (((List Int × Nat) × Unit) ×
      Unit × Unit)) : List Int × List Int × Int × Unit → Option (((List Int × Nat) × Unit) × Unit × Unit) := fun (y3, y4, y5, ()) =>
  br (decide (y5 < (↑y4.length : Int)))
  (br (decide ((0 : Int) ≤ y5))
    (br (decide (y5 < (↑y4.length : Int))) (rec1 (y3, y4.set y5.toNat (165 : Int), IntKind.i64.wrap (y5 + (1 : Int)), ())) none) none)
  (br (decide ((↑y3.length : Int) ≤ (↑y4.length : Int))) (some (((y4, (↑y3.length : Int).toNat), ()), (), ())) none)
def lentBytes_P (K : Nat) (a0 : List Int) : Option (((List Int × Nat) × Unit) × Unit × Unit) :=
  br (decide ((0 : Int) ≤ IntKind.i64.wrap ((↑a0.length : Int) + (3 : Int))))
  (br (decide (IntKind.i64.wrap ((↑a0.length : Int) + (3 : Int)) ≤ IntKind.i64.wrap ((↑a0.length : Int) + (3 : Int))))
    (br (decide ((IntKind.i64.wrap ((↑a0.length : Int) + (3 : Int))).toNat * (1 : Nat) ≤ LIM))
      (br (decide ((IntKind.i64.wrap ((↑a0.length : Int) + (3 : Int))).toNat ≤ LIM))
        (loopN lentBytes_L1 K
          (a0,
            splice (List.replicate (IntKind.i64.wrap ((↑a0.length : Int) + (3 : Int))).toNat (0 : Int)) a0 (0 : Nat)
              (List.replicate (IntKind.i64.wrap ((↑a0.length : Int) + (3 : Int))).toNat (0 : Int)).length,
            (↑a0.length : Int), ()))
        none)
      none)
    none)
  none
theorem lentBytes_rn (K : Nat) (a0 : List
  Int) : runF (cfgW g_lentBytes) K f_lentBytes lentBytes_tm [.val (.slice tB)] [.sub tB] (a0, ()) = lentBytes_P K a0 := by kernel_rfl
abbrev g_staysBytes : List (Nat × Ctr O0) := []
def staysBytes_tm : List (List (Nat × SSh O0)) := [[((1 : Nat), SSh.one (CSh.ro (Ty.int IntKind.u8))), ((5 : Nat), SSh.one (CSh.parR (0 : Nat) (Ty.int IntKind.u8))),
    ((6 : Nat), SSh.one (CSh.int IntKind.i64))]]
def staysBytes_L1 (rec1 : List Int × (List Int × Nat) × Int × Unit →
  Option
    ((Bool × Unit) ×
      List Int ×
        Unit × Unit)) : List Int × (List Int × Nat) × Int × Unit → Option ((Bool × Unit) × List Int × Unit × Unit) := fun (y3, y4, y5, ()) =>
  br (decide (y5 < (↑y4.2 : Int)))
  (br (decide (y5 < (↑y3.length : Int)))
    (br (decide ((0 : Int) ≤ y5))
      (br (decide (y5 < (↑y4.2 : Int)))
        (br (decide ((0 : Int) ≤ y5))
          (br (decide (y5 < (↑y3.length : Int)))
            (br (y4.1.getD y5.toNat (0 : Int) != y3.getD y5.toNat (0 : Int)) (some ((false, ()), y4.1, (), ()))
              (br (decide (y5 ≥ (↑y3.length : Int)))
                (br (decide ((0 : Int) ≤ y5))
                  (br (decide (y5 < (↑y4.2 : Int)))
                    (br (y4.1.getD y5.toNat (0 : Int) != (165 : Int)) (some ((false, ()), y4.1, (), ()))
                      (rec1 (y3, (y4.1, y4.2), IntKind.i64.wrap (y5 + (1 : Int)), ())))
                    none)
                  none)
                (rec1 (y3, (y4.1, y4.2), IntKind.i64.wrap (y5 + (1 : Int)), ()))))
            none)
          none)
        none)
      none)
    (br (decide (y5 ≥ (↑y3.length : Int)))
      (br (decide ((0 : Int) ≤ y5))
        (br (decide (y5 < (↑y4.2 : Int)))
          (br (y4.1.getD y5.toNat (0 : Int) != (165 : Int)) (some ((false, ()), y4.1, (), ()))
            (rec1 (y3, (y4.1, y4.2), IntKind.i64.wrap (y5 + (1 : Int)), ())))
          none)
        none)
      (rec1 (y3, (y4.1, y4.2), IntKind.i64.wrap (y5 + (1 : Int)), ()))))
  (some ((true, ()), y4.1, (), ()))
def staysBytes_P (K : Nat) (a0 : List Int × Nat) (a1 : List Int) : Option ((Bool × Unit) × List Int × Unit × Unit) :=
  br ((↑a0.2 : Int) != (↑a1.length : Int)) (some ((false, ()), a0.1, (), ()))
  (br (decide ((0 : Int) ≤ IntKind.i64.wrap ((↑a1.length : Int) + (3 : Int))))
    (br (decide (IntKind.i64.wrap ((↑a1.length : Int) + (3 : Int)) ≤ (↑(a0.1.length - (0 : Nat)) : Int)))
      (loopN staysBytes_L1 K (a1, (a0.1, (IntKind.i64.wrap ((↑a1.length : Int) + (3 : Int))).toNat), (0 : Int), ())) none)
    none)
theorem staysBytes_rn (K : Nat) (a0 : List Int ×
  Nat) (a1 : List
  Int) : runF (cfgW g_staysBytes) K f_staysBytes staysBytes_tm [.row tB, .val (.slice tB)] [.val .bool] (a0, a1, ()) = staysBytes_P K a0 a1 := by kernel_rfl
abbrev g_cloneBytes : List (Nat × Ctr O0) := []
def cloneBytes_tm : List (List (Nat × SSh O0)) := []
def cloneBytes_P (K : Nat) (a0 : List Int) : Option ((List Int × Unit) × Unit × Unit) :=
  mayB a0.isEmpty (some (([], ()), (), ()))
  (br (decide (((0 : Nat) + a0.length) * (1 : Nat) ≤ LIM))
    (br (decide ((0 : Nat) + a0.length ≤ LIM)) (some ((cat [] a0, ()), (), ())) none) none)
theorem cloneBytes_rn (K : Nat) (a0 : List
  Int) : runF (cfgW g_cloneBytes) K f_cloneBytes cloneBytes_tm [.val (.slice tB)] [.own tB] (a0, ()) = cloneBytes_P K a0 := by kernel_rfl
abbrev g_lentVersions : List (Nat × Ctr O0) := []
def lentVersions_tm : List (List (Nat × SSh O0)) := [[((0 : Nat), SSh.one (CSh.ro ((Ty.int IntKind.u64).pair (Ty.int IntKind.u16)))),
    ((3 : Nat), SSh.one (CSh.own ((Ty.int IntKind.u64).pair (Ty.int IntKind.u16)))), ((4 : Nat), SSh.one (CSh.int IntKind.i64))]]
def lentVersions_L1 (rec1 : List (Int × Int) × List (Int × Int) × Int × Unit →
  Option
    (((List (Int × Int) × Nat) × Unit) ×
      Unit ×
        Unit)) : List (Int × Int) × List (Int × Int) × Int × Unit →
  Option (((List (Int × Int) × Nat) × Unit) × Unit × Unit) := fun (y3, y4, y5, ()) =>
  br (decide (y5 < (↑y4.length : Int)))
  (br (decide ((0 : Int) ≤ y5))
    (br (decide (y5 < (↑y4.length : Int))) (rec1 (y3, y4.set y5.toNat ((7 : Int), (7 : Int)), IntKind.i64.wrap (y5 + (1 : Int)), ())) none)
    none)
  (br (decide ((↑y3.length : Int) ≤ (↑y4.length : Int))) (some (((y4, (↑y3.length : Int).toNat), ()), (), ())) none)
def lentVersions_P (K : Nat) (a0 : List (Int × Int)) : Option (((List (Int × Int) × Nat) × Unit) × Unit × Unit) :=
  br (decide ((0 : Int) ≤ IntKind.i64.wrap ((↑a0.length : Int) + (3 : Int))))
  (br (decide (IntKind.i64.wrap ((↑a0.length : Int) + (3 : Int)) ≤ IntKind.i64.wrap ((↑a0.length : Int) + (3 : Int))))
    (br (decide ((IntKind.i64.wrap ((↑a0.length : Int) + (3 : Int))).toNat * (16 : Nat) ≤ LIM))
      (br (decide ((IntKind.i64.wrap ((↑a0.length : Int) + (3 : Int))).toNat ≤ LIM))
        (loopN lentVersions_L1 K
          (a0,
            splice (List.replicate (IntKind.i64.wrap ((↑a0.length : Int) + (3 : Int))).toNat ((0 : Int), (0 : Int))) a0 (0 : Nat)
              (List.replicate (IntKind.i64.wrap ((↑a0.length : Int) + (3 : Int))).toNat ((0 : Int), (0 : Int))).length,
            (↑a0.length : Int), ()))
        none)
      none)
    none)
  none
theorem lentVersions_rn (K : Nat) (a0 : List
  (Int ×
    Int)) : runF (cfgW g_lentVersions) K f_lentVersions lentVersions_tm [.val (.slice tVer)] [.sub tVer] (a0, ()) = lentVersions_P K a0 := by kernel_rfl
abbrev g_staysVersions : List (Nat × Ctr O0) := []
def staysVersions_tm : List (List (Nat × SSh O0)) := [[((1 : Nat), SSh.one (CSh.ro ((Ty.int IntKind.u64).pair (Ty.int IntKind.u16)))),
    ((5 : Nat), SSh.one (CSh.parR (0 : Nat) ((Ty.int IntKind.u64).pair (Ty.int IntKind.u16)))), ((6 : Nat), SSh.one (CSh.int IntKind.i64))]]
def staysVersions_L1 (rec1 : List (Int × Int) × (List (Int × Int) × Nat) × Int × Unit →
  Option
    ((Bool × Unit) ×
      List (Int × Int) ×
        Unit ×
          Unit)) : List (Int × Int) × (List (Int × Int) × Nat) × Int × Unit →
  Option ((Bool × Unit) × List (Int × Int) × Unit × Unit) := fun (y3, y4, y5, ()) =>
  br (decide (y5 < (↑y4.2 : Int)))
  (br (decide (y5 < (↑y3.length : Int)))
    (br (decide ((0 : Int) ≤ y5))
      (br (decide (y5 < (↑y4.2 : Int)))
        (br (decide ((0 : Int) ≤ y5))
          (br (decide (y5 < (↑y3.length : Int)))
            (br
              (!((y4.1.getD y5.toNat ((0 : Int), (0 : Int))).1 == (y3.getD y5.toNat ((0 : Int), (0 : Int))).1 &&
                  (y4.1.getD y5.toNat ((0 : Int), (0 : Int))).2 == (y3.getD y5.toNat ((0 : Int), (0 : Int))).2))
              (some ((false, ()), y4.1, (), ()))
              (br (decide (y5 ≥ (↑y3.length : Int)))
                (br (decide ((0 : Int) ≤ y5))
                  (br (decide (y5 < (↑y4.2 : Int)))
                    (br (!((y4.1.getD y5.toNat ((0 : Int), (0 : Int))).1 == (7 : Int) && (y4.1.getD y5.toNat ((0 : Int), (0 : Int))).2 == (7 : Int)))
                      (some ((false, ()), y4.1, (), ()))
                      (rec1 (y3, (y4.1, y4.2), IntKind.i64.wrap (y5 + (1 : Int)), ())))
                    none)
                  none)
                (rec1 (y3, (y4.1, y4.2), IntKind.i64.wrap (y5 + (1 : Int)), ()))))
            none)
          none)
        none)
      none)
    (br (decide (y5 ≥ (↑y3.length : Int)))
      (br (decide ((0 : Int) ≤ y5))
        (br (decide (y5 < (↑y4.2 : Int)))
          (br (!((y4.1.getD y5.toNat ((0 : Int), (0 : Int))).1 == (7 : Int) && (y4.1.getD y5.toNat ((0 : Int), (0 : Int))).2 == (7 : Int)))
            (some ((false, ()), y4.1, (), ())) (rec1 (y3, (y4.1, y4.2), IntKind.i64.wrap (y5 + (1 : Int)), ())))
          none)
        none)
      (rec1 (y3, (y4.1, y4.2), IntKind.i64.wrap (y5 + (1 : Int)), ()))))
  (some ((true, ()), y4.1, (), ()))
def staysVersions_P (K : Nat) (a0 : List (Int × Int) × Nat) (a1 : List (Int × Int)) : Option ((Bool × Unit) × List (Int × Int) × Unit × Unit) :=
  br ((↑a0.2 : Int) != (↑a1.length : Int)) (some ((false, ()), a0.1, (), ()))
  (br (decide ((0 : Int) ≤ IntKind.i64.wrap ((↑a1.length : Int) + (3 : Int))))
    (br (decide (IntKind.i64.wrap ((↑a1.length : Int) + (3 : Int)) ≤ (↑(a0.1.length - (0 : Nat)) : Int)))
      (loopN staysVersions_L1 K (a1, (a0.1, (IntKind.i64.wrap ((↑a1.length : Int) + (3 : Int))).toNat), (0 : Int), ())) none)
    none)
theorem staysVersions_rn (K : Nat) (a0 : List (Int × Int) ×
  Nat) (a1 : List
  (Int ×
    Int)) : runF (cfgW g_staysVersions) K f_staysVersions staysVersions_tm [.row tVer, .val (.slice tVer)] [.val .bool] (a0, a1, ()) = staysVersions_P K a0 a1 := by kernel_rfl
abbrev g_sameVersions : List (Nat × Ctr O0) := []
def sameVersions_tm : List (List (Nat × SSh O0)) := [[((0 : Nat), SSh.one (CSh.ro ((Ty.int IntKind.u64).pair (Ty.int IntKind.u16)))),
    ((1 : Nat), SSh.one (CSh.ro ((Ty.int IntKind.u64).pair (Ty.int IntKind.u16)))), ((5 : Nat), SSh.one (CSh.int IntKind.i64))]]
def sameVersions_L1 (rec1 : List (Int × Int) × List (Int × Int) × Int × Unit →
  Option
    ((Bool × Unit) ×
      Unit ×
        Unit ×
          Unit)) : List (Int × Int) × List (Int × Int) × Int × Unit → Option ((Bool × Unit) × Unit × Unit × Unit) := fun (y3, y4, y5, ()) =>
  br (decide (y5 < (↑y3.length : Int)))
  (br (decide ((0 : Int) ≤ y5))
    (br (decide (y5 < (↑y3.length : Int)))
      (br (decide ((0 : Int) ≤ y5))
        (br (decide (y5 < (↑y4.length : Int)))
          (br
            (!((y3.getD y5.toNat ((0 : Int), (0 : Int))).1 == (y4.getD y5.toNat ((0 : Int), (0 : Int))).1 &&
                (y3.getD y5.toNat ((0 : Int), (0 : Int))).2 == (y4.getD y5.toNat ((0 : Int), (0 : Int))).2))
            (some ((false, ()), (), (), ())) (rec1 (y3, y4, IntKind.i64.wrap (y5 + (1 : Int)), ())))
          none)
        none)
      none)
    none)
  (some ((true, ()), (), (), ()))
def sameVersions_P (K : Nat) (a0 : List (Int × Int)) (a1 : List (Int × Int)) : Option ((Bool × Unit) × Unit × Unit × Unit) :=
  br ((↑a0.length : Int) != (↑a1.length : Int)) (some ((false, ()), (), (), ()))
  (loopN sameVersions_L1 K (a0, a1, (0 : Int), ()))
theorem sameVersions_rn (K : Nat) (a0 : List
  (Int ×
    Int)) (a1 : List
  (Int ×
    Int)) : runF (cfgW g_sameVersions) K f_sameVersions sameVersions_tm [.val (.slice tVer), .val (.slice tVer)] [.val .bool] (a0, a1, ()) = sameVersions_P K a0 a1 := by kernel_rfl
abbrev g_cloneVersions : List (Nat × Ctr O0) := []
def cloneVersions_tm : List (List (Nat × SSh O0)) := []
def cloneVersions_P (K : Nat) (a0 : List (Int × Int)) : Option ((List (Int × Int) × Unit) × Unit × Unit) :=
  mayB a0.isEmpty (some (([], ()), (), ()))
  (br (decide (((0 : Nat) + a0.length) * (16 : Nat) ≤ LIM))
    (br (decide ((0 : Nat) + a0.length ≤ LIM)) (some ((cat [] a0, ()), (), ())) none) none)
theorem cloneVersions_rn (K : Nat) (a0 : List
  (Int ×
    Int)) : runF (cfgW g_cloneVersions) K f_cloneVersions cloneVersions_tm [.val (.slice tVer)] [.own tVer] (a0, ()) = cloneVersions_P K a0 := by kernel_rfl
end
end Go.BB
