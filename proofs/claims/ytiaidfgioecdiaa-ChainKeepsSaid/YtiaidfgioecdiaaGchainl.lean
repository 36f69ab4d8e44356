/- A symbolic machine for the model's code, and what it shows of this seat's functions. No conditions. -/
import Derived.Test.YtiaidfgioecdiaaN
import Derived.Test.YtiaidfgioecdiaaSChain
set_option linter.unusedSimpArgs false
set_option linter.unusedVariables false
namespace Go.BB
open Go Go.Proofs
set_option maxRecDepth 100000
set_option exponentiation.threshold 100000
noncomputable section
abbrev g_lChainTells : List (Nat × Ctr O0) := [(n_awake16, c_awake16), (n_lentVersions, c_lentVersions), (n_chainRight, c_chainRight), (n_rchainRight, c_rchainRight), (n_staysVersions, c_staysVersions), (n_chain, c_chain), (n_within, c_within)]
def lChainTells_tm : List (List (Nat × SSh O0)) := []
def lChainTells_P (K : Nat) (a0 : List
  (Int × Int)) (a1 : List Int) (a2 : Int) (a3 : Int) : Option ((Bool × Unit) × Unit × Unit × Unit × Unit × Unit) :=
  br (decide ((↑a0.length : Int) > (40 : Int))) (some ((true, ()), (), (), (), (), ()))
  (br (!true) (some ((true, ()), (), (), (), (), ()))
    (bd (grd (decide (a0.length < (1000000 : Nat))) (((lentS ((7 : Int), (7 : Int)) a0, a0.length), ()), (), ()))
      fun (x1 : ((List (Int × Int) × Nat) × Unit) × Unit × Unit) =>
      bd
        (grd (lenOk (List.take x1.1.1.2 (List.drop (0 : Nat) x1.1.1.1)))
          ((rightFrom (0 : Int) (List.take x1.1.1.2 (List.drop (0 : Nat) x1.1.1.1)), ()), (), ()))
        fun (x2 : (Bool × Unit) × Unit × Unit) =>
        bd (grd (lenOk a0 && allU a0) ((rightFrom (0 : Int) a0, ()), (), ())) fun (x3 : (Bool × Unit) × Unit × Unit) =>
          br (!x2.1.1 == x3.1.1) (some ((false, ()), (), (), (), (), ()))
            (bd
              (grd (staysS ((7 : Int), (7 : Int)) x1.1.1.1 x1.1.1.2 a0 && decide (a0.length < (1000000 : Nat)))
                ((true, ()), x1.1.1.1, (), ()))
              fun (x4 : (Bool × Unit) × List (Int × Int) × Unit × Unit) =>
              br (!x4.1.1) (some ((false, ()), (), (), (), (), ()))
                (bd (grd (lenOk (chainS a1)) ((rightFrom (0 : Int) (chainS a1), ()), (), ()))
                  fun (x5 : (Bool × Unit) × Unit × Unit) =>
                  br (!x5.1.1) (some ((false, ()), (), (), (), (), ()))
                    (br (decide ((↑(chainS a1).length : Int) > (0 : Int)))
                      (bd
                        (grd (decide ((0 : Int) < (↑(chainS a1).length : Int)) && decide ((↑(chainS a1).length : Int) < (4611686018427387904 : Int)))
                          ((a2 % (↑(chainS a1).length : Int), ()), (), (), ()))
                        fun (x6 : (Int × Unit) × Unit × Unit × Unit) =>
                        br (!false)
                          (br (decide ((0 : Int) ≤ x6.1.1))
                            (br (decide (x6.1.1 < (↑(chainS a1).length : Int)))
                              (bd
                                (grd
                                  (lenOk
                                    ((chainS a1).set x6.1.1.toNat (a3.tmod (60 : Int), ((chainS a1).getD x6.1.1.toNat ((0 : Int), (0 : Int))).2)))
                                  ((rightFrom (0 : Int)
                                        ((chainS a1).set x6.1.1.toNat (a3.tmod (60 : Int), ((chainS a1).getD x6.1.1.toNat ((0 : Int), (0 : Int))).2)),
                                      ()),
                                    (), ()))
                                fun (x7 : (Bool × Unit) × Unit × Unit) =>
                                bd
                                  (grd
                                    (lenOk
                                        ((chainS a1).set x6.1.1.toNat
                                          (a3.tmod (60 : Int), ((chainS a1).getD x6.1.1.toNat ((0 : Int), (0 : Int))).2)) &&
                                      allU
                                        ((chainS a1).set x6.1.1.toNat (a3.tmod (60 : Int), ((chainS a1).getD x6.1.1.toNat ((0 : Int), (0 : Int))).2)))
                                    ((rightFrom (0 : Int)
                                          ((chainS a1).set x6.1.1.toNat
                                            (a3.tmod (60 : Int), ((chainS a1).getD x6.1.1.toNat ((0 : Int), (0 : Int))).2)),
                                        ()),
                                      (), ()))
                                  fun (x8 : (Bool × Unit) × Unit × Unit) =>
                                  some ((x7.1.1 == x8.1.1, ()), (), (), (), (), ()))
                              none)
                            none)
                          none)
                      (bd (grd (lenOk (chainS a1)) ((rightFrom (0 : Int) (chainS a1), ()), (), ()))
                        fun (x9 : (Bool × Unit) × Unit × Unit) =>
                        bd (grd (lenOk (chainS a1) && allU (chainS a1)) ((rightFrom (0 : Int) (chainS a1), ()), (), ()))
                          fun (x10 : (Bool × Unit) × Unit × Unit) =>
                          some ((x9.1.1 == x10.1.1, ()), (), (), (), (), ())))))))
theorem lChainTells_rn (K : Nat) (a0 : List
  (Int ×
    Int)) (a1 : List
  Int) (a2 : Int) (a3 : Int) : runF (cfgW g_lChainTells) K f_lChainTells lChainTells_tm [.val (.slice tVer), .val (.slice tI), .val tI, .val tU] [.val .bool] (a0, a1, a2, a3, ()) = lChainTells_P K a0 a1 a2 a3 := by kernel_rfl
abbrev g_lChainAsks : List (Nat × Ctr O0) := [(n_awake16, c_awake16), (n_lentVersions, c_lentVersions), (n_chain, c_chain), (n_chainAt, c_chainAt), (n_rchainAt, c_rchainAt), (n_newest, c_newest), (n_rnewest, c_rnewest), (n_chainAdd, c_chainAdd), (n_rchainAdd, c_rchainAdd), (n_trim, c_trim), (n_rtrim, c_rtrim), (n_sameVersions, c_sameVersions), (n_staysVersions, c_staysVersions)]
def lChainAsks_tm : List (List (Nat × SSh O0)) := []
def lChainAsks_P (K : Nat) (a0 : List
  Int) (a1 : Int) (a2 : Bool) (a3 : Int × Int) : Option ((Bool × Unit) × Unit × Unit × Unit × Unit × Unit) :=
  br (!true) (some ((false, ()), (), (), (), (), ()))
  (br a2
    (br (!false)
      (br (!false)
        (bd
          (grd (decide ((chainS a0).length < (1000000 : Nat)))
            (((lentS ((7 : Int), (7 : Int)) (chainS a0), (chainS a0).length), ()), (), ()))
          fun (x1 : ((List (Int × Int) × Nat) × Unit) × Unit × Unit) =>
          bd
            (grd
              (lenOk (List.take x1.1.1.2 (List.drop (0 : Nat) x1.1.1.1)) && rightFrom (0 : Int) (List.take x1.1.1.2 (List.drop (0 : Nat) x1.1.1.1)))
              ((atV (List.take x1.1.1.2 (List.drop (0 : Nat) x1.1.1.1)) (a1.tmod (120 : Int)), ()), (), (), ()))
            fun (x2 : (Int × Unit) × Unit × Unit × Unit) =>
            bd (grd (lenOk (chainS a0)) ((atV (chainS a0) (a1.tmod (120 : Int)), ()), (), (), ()))
              fun (x3 : (Int × Unit) × Unit × Unit × Unit) =>
              br (x2.1.1 != x3.1.1) (some ((false, ()), (), (), (), (), ()))
                (bd
                  (grd (lenOk (List.take x1.1.1.2 (List.drop (0 : Nat) x1.1.1.1)))
                    ((newS (List.take x1.1.1.2 (List.drop (0 : Nat) x1.1.1.1)), ()), (), ()))
                  fun (x4 : (Int × Unit) × Unit × Unit) =>
                  bd (grd (lenOk (chainS a0)) ((newS (chainS a0), ()), (), ())) fun (x5 : (Int × Unit) × Unit × Unit) =>
                    br (x4.1.1 != x5.1.1) (some ((false, ()), (), (), (), (), ()))
                      (bd
                        (grd (lenOk (List.take x1.1.1.2 (List.drop (0 : Nat) x1.1.1.1)))
                          (((addS (List.take x1.1.1.2 (List.drop (0 : Nat) x1.1.1.1)) (a3.1.tmod (120 : Int), a3.2)).1,
                              (addS (List.take x1.1.1.2 (List.drop (0 : Nat) x1.1.1.1)) (a3.1.tmod (120 : Int), a3.2)).2, ()),
                            (), (), ()))
                        fun (x6 : (List (Int × Int) × Int × Unit) × Unit × Unit × Unit) =>
                        bd
                          (grd (lenOk (chainS a0))
                            (((addS (chainS a0) (a3.1.tmod (120 : Int), a3.2)).1, (addS (chainS a0) (a3.1.tmod (120 : Int), a3.2)).2, ()),
                              (), (), ()))
                          fun (x7 : (List (Int × Int) × Int × Unit) × Unit × Unit × Unit) =>
                          bd
                            (grd
                              (lenOk (List.take x1.1.1.2 (List.drop (0 : Nat) x1.1.1.1)) &&
                                rightFrom (0 : Int) (List.take x1.1.1.2 (List.drop (0 : Nat) x1.1.1.1)))
                              ((trimS (List.take x1.1.1.2 (List.drop (0 : Nat) x1.1.1.1)) (a1.tmod (120 : Int)), ()), (), (),
                                ()))
                            fun (x8 : (List (Int × Int) × Unit) × Unit × Unit × Unit) =>
                            br (x6.1.2.1 == x7.1.2.1)
                              (bd
                                (grd (decide (x6.1.1.length < (1000000 : Nat)))
                                  ((sameS x6.1.1 x7.1.1, ()), (), (), ()))
                                fun (x9 : (Bool × Unit) × Unit × Unit × Unit) =>
                                br x9.1.1
                                  (bd
                                    (grd (lenOk (chainS a0) && rightFrom (0 : Int) (chainS a0))
                                      ((trimS (chainS a0) (a1.tmod (120 : Int)), ()), (), (), ()))
                                    fun (x10 : (List (Int × Int) × Unit) × Unit × Unit × Unit) =>
                                    bd
                                      (grd (decide (x8.1.1.length < (1000000 : Nat)))
                                        ((sameS x8.1.1 x10.1.1, ()), (), (), ()))
                                      fun (x11 : (Bool × Unit) × Unit × Unit × Unit) =>
                                      br x11.1.1
                                        (bd
                                          (grd
                                            (staysS ((7 : Int), (7 : Int)) x1.1.1.1 x1.1.1.2 (chainS a0) &&
                                              decide ((chainS a0).length < (1000000 : Nat)))
                                            ((true, ()), x1.1.1.1, (), ()))
                                          fun (x12 : (Bool × Unit) × List (Int × Int) × Unit × Unit) =>
                                          some ((x12.1.1, ()), (), (), (), (), ()))
                                        (some ((false, ()), (), (), (), (), ())))
                                  (some ((false, ()), (), (), (), (), ())))
                              (some ((false, ()), (), (), (), (), ())))))
        none)
      none)
    (bd
      (grd (decide ((chainS a0).length < (1000000 : Nat)))
        (((lentS ((7 : Int), (7 : Int)) (chainS a0), (chainS a0).length), ()), (), ()))
      fun (x13 : ((List (Int × Int) × Nat) × Unit) × Unit × Unit) =>
      bd
        (grd
          (lenOk (List.take x13.1.1.2 (List.drop (0 : Nat) x13.1.1.1)) && rightFrom (0 : Int) (List.take x13.1.1.2 (List.drop (0 : Nat) x13.1.1.1)))
          ((atV (List.take x13.1.1.2 (List.drop (0 : Nat) x13.1.1.1)) a1, ()), (), (), ()))
        fun (x14 : (Int × Unit) × Unit × Unit × Unit) =>
        bd (grd (lenOk (chainS a0)) ((atV (chainS a0) a1, ()), (), (), ()))
          fun (x15 : (Int × Unit) × Unit × Unit × Unit) =>
          br (x14.1.1 != x15.1.1) (some ((false, ()), (), (), (), (), ()))
            (bd
              (grd (lenOk (List.take x13.1.1.2 (List.drop (0 : Nat) x13.1.1.1)))
                ((newS (List.take x13.1.1.2 (List.drop (0 : Nat) x13.1.1.1)), ()), (), ()))
              fun (x16 : (Int × Unit) × Unit × Unit) =>
              bd (grd (lenOk (chainS a0)) ((newS (chainS a0), ()), (), ())) fun (x17 : (Int × Unit) × Unit × Unit) =>
                br (x16.1.1 != x17.1.1) (some ((false, ()), (), (), (), (), ()))
                  (bd
                    (grd (lenOk (List.take x13.1.1.2 (List.drop (0 : Nat) x13.1.1.1)))
                      (((addS (List.take x13.1.1.2 (List.drop (0 : Nat) x13.1.1.1)) (a3.1, a3.2)).1,
                          (addS (List.take x13.1.1.2 (List.drop (0 : Nat) x13.1.1.1)) (a3.1, a3.2)).2, ()),
                        (), (), ()))
                    fun (x18 : (List (Int × Int) × Int × Unit) × Unit × Unit × Unit) =>
                    bd
                      (grd (lenOk (chainS a0))
                        (((addS (chainS a0) (a3.1, a3.2)).1, (addS (chainS a0) (a3.1, a3.2)).2, ()), (), (), ()))
                      fun (x19 : (List (Int × Int) × Int × Unit) × Unit × Unit × Unit) =>
                      bd
                        (grd
                          (lenOk (List.take x13.1.1.2 (List.drop (0 : Nat) x13.1.1.1)) &&
                            rightFrom (0 : Int) (List.take x13.1.1.2 (List.drop (0 : Nat) x13.1.1.1)))
                          ((trimS (List.take x13.1.1.2 (List.drop (0 : Nat) x13.1.1.1)) a1, ()), (), (), ()))
                        fun (x20 : (List (Int × Int) × Unit) × Unit × Unit × Unit) =>
                        br (x18.1.2.1 == x19.1.2.1)
                          (bd
                            (grd (decide (x18.1.1.length < (1000000 : Nat)))
                              ((sameS x18.1.1 x19.1.1, ()), (), (), ()))
                            fun (x21 : (Bool × Unit) × Unit × Unit × Unit) =>
                            br x21.1.1
                              (bd
                                (grd (lenOk (chainS a0) && rightFrom (0 : Int) (chainS a0))
                                  ((trimS (chainS a0) a1, ()), (), (), ()))
                                fun (x22 : (List (Int × Int) × Unit) × Unit × Unit × Unit) =>
                                bd
                                  (grd (decide (x20.1.1.length < (1000000 : Nat)))
                                    ((sameS x20.1.1 x22.1.1, ()), (), (), ()))
                                  fun (x23 : (Bool × Unit) × Unit × Unit × Unit) =>
                                  br x23.1.1
                                    (bd
                                      (grd
                                        (staysS ((7 : Int), (7 : Int)) x13.1.1.1 x13.1.1.2 (chainS a0) &&
                                          decide ((chainS a0).length < (1000000 : Nat)))
                                        ((true, ()), x13.1.1.1, (), ()))
                                      fun (x24 : (Bool × Unit) × List (Int × Int) × Unit × Unit) =>
                                      some ((x24.1.1, ()), (), (), (), (), ()))
                                    (some ((false, ()), (), (), (), (), ())))
                              (some ((false, ()), (), (), (), (), ())))
                          (some ((false, ()), (), (), (), (), ()))))))
theorem lChainAsks_rn (K : Nat) (a0 : List
  Int) (a1 : Int) (a2 : Bool) (a3 : Int ×
  Int) : runF (cfgW g_lChainAsks) K f_lChainAsks lChainAsks_tm [.val (.slice tI), .val tU, .val .bool, .val tVer] [.val .bool] (a0, a1, a2, a3, ()) = lChainAsks_P K a0 a1 a2 a3 := by kernel_rfl
abbrev g_lChainKeeps : List (Nat × Ctr O0) := [(n_awake16, c_awake16), (n_chain, c_chain), (n_trim, c_trim), (n_chainRight, c_chainRight), (n_chainAt, c_chainAt), (n_newest, c_newest), (n_sameVersions, c_sameVersions)]
def lChainKeeps_tm : List (List (Nat × SSh O0)) := [[((1 : Nat), SSh.one (CSh.int IntKind.u64)), ((9 : Nat), SSh.one (CSh.own ((Ty.int IntKind.u64).pair (Ty.int IntKind.u16)))),
    ((10 : Nat), SSh.one (CSh.own ((Ty.int IntKind.u64).pair (Ty.int IntKind.u16)))), ((11 : Nat), SSh.one (CSh.int IntKind.i64)),
    ((12 : Nat), SSh.one (CSh.int IntKind.i64))]]
def lChainKeeps_L1 (rec9 : Int × List (Int × Int) × List (Int × Int) × Int × Int × Unit →
  Option
    ((Bool × Unit) ×
      Unit ×
        Unit ×
          Unit ×
            Unit ×
              Unit)) : Int × List (Int × Int) × List (Int × Int) × Int × Int × Unit →
  Option ((Bool × Unit) × Unit × Unit × Unit × Unit × Unit) := fun (y11, y12, y13, y14, y15, ()) =>
  br (decide (y15 < (↑y13.length : Int)))
  (br (decide ((0 : Int) ≤ y15))
    (br (decide (y15 < (↑y13.length : Int)))
      (br (decide ((y13.getD y15.toNat ((0 : Int), (0 : Int))).1 ≤ y11))
        (rec9 (y11, y12, y13, IntKind.i64.wrap (y14 + (1 : Int)), IntKind.i64.wrap (y15 + (1 : Int)), ()))
        (rec9 (y11, y12, y13, y14, IntKind.i64.wrap (y15 + (1 : Int)), ())))
      none)
    none)
  (br (decide (y14 ≤ (1 : Int)))
    (some ((decide ((↑y13.length : Int) ≤ (↑y12.length : Int)), ()), (), (), (), (), ()))
    (some ((false, ()), (), (), (), (), ())))
def lChainKeeps_P (K : Nat) (a0 : List Int) (a1 : Int) (a2 : Int) (a3 : Int) : Option ((Bool × Unit) × Unit × Unit × Unit × Unit × Unit) :=
  br (!true) (some ((false, ()), (), (), (), (), ()))
  (br (!false)
    (br (!false)
      (bd
        (grd (lenOk (chainS a0) && rightFrom (0 : Int) (chainS a0))
          ((trimS (chainS a0) (a1.tmod (120 : Int)), ()), (), (), ()))
        fun (x1 : (List (Int × Int) × Unit) × Unit × Unit × Unit) =>
        bd (grd (lenOk x1.1.1) ((rightFrom (0 : Int) x1.1.1, ()), (), ())) fun (x2 : (Bool × Unit) × Unit × Unit) =>
          br (!x2.1.1) (some ((false, ()), (), (), (), (), ()))
            (bd
              (grd (lenOk x1.1.1 && rightFrom (0 : Int) x1.1.1)
                ((atV x1.1.1 (IntKind.u64.wrap (a1.tmod (120 : Int) + a2.tmod (120 : Int))), ()), (), (), ()))
              fun (x3 : (Int × Unit) × Unit × Unit × Unit) =>
              bd
                (grd (lenOk (chainS a0) && rightFrom (0 : Int) (chainS a0))
                  ((atV (chainS a0) (IntKind.u64.wrap (a1.tmod (120 : Int) + a2.tmod (120 : Int))), ()), (), (), ()))
                fun (x4 : (Int × Unit) × Unit × Unit × Unit) =>
                br (x3.1.1 != x4.1.1) (some ((false, ()), (), (), (), (), ()))
                  (bd (grd (lenOk x1.1.1) ((newS x1.1.1, ()), (), ())) fun (x5 : (Int × Unit) × Unit × Unit) =>
                    bd (grd (lenOk (chainS a0)) ((newS (chainS a0), ()), (), ())) fun (x6 : (Int × Unit) × Unit × Unit) =>
                      br (x5.1.1 != x6.1.1) (some ((false, ()), (), (), (), (), ()))
                        (br (!decide (IntKind.u64.wrap (a1.tmod (120 : Int) + (1 : Int)) = (0 : Int)))
                          (bd
                            (grd (lenOk x1.1.1 && rightFrom (0 : Int) x1.1.1)
                              ((trimS x1.1.1 (a3.tmod (IntKind.u64.wrap (a1.tmod (120 : Int) + (1 : Int)))), ()), (), (),
                                ()))
                            fun (x7 : (List (Int × Int) × Unit) × Unit × Unit × Unit) =>
                            bd
                              (grd (decide (x7.1.1.length < (1000000 : Nat))) ((sameS x7.1.1 x1.1.1, ()), (), (), ()))
                              fun (x8 : (Bool × Unit) × Unit × Unit × Unit) =>
                              br (!x8.1.1) (some ((false, ()), (), (), (), (), ()))
                                (loopN lChainKeeps_L1 K (a1.tmod (120 : Int), chainS a0, x1.1.1, (0 : Int), (0 : Int), ())))
                          none))))
      none)
    none)
theorem lChainKeeps_rn (K : Nat) (a0 : List
  Int) (a1 : Int) (a2 : Int) (a3 : Int) : runF (cfgW g_lChainKeeps) K f_lChainKeeps lChainKeeps_tm [.val (.slice tI), .val tU, .val tU, .val tU] [.val .bool] (a0, a1, a2, a3, ()) = lChainKeeps_P K a0 a1 a2 a3 := by kernel_rfl
abbrev g_lChainGrows : List (Nat × Ctr O0) := [(n_awake16, c_awake16), (n_chain, c_chain), (n_newest, c_newest), (n_chainAdd, c_chainAdd), (n_chainRight, c_chainRight), (n_chainAt, c_chainAt)]
def lChainGrows_tm : List (List (Nat × SSh O0)) := []
def lChainGrows_P (K : Nat) (a0 : List Int) (a1 : Int) (a2 : Int) (a3 : Int) : Option ((Bool × Unit) × Unit × Unit × Unit × Unit × Unit) :=
  br (!true) (some ((false, ()), (), (), (), (), ()))
  (bd (grd (lenOk (chainS a0)) ((newS (chainS a0), ()), (), ())) fun (x1 : (Int × Unit) × Unit × Unit) =>
    br (!decide (IntKind.u64.wrap (x1.1.1 + (1 : Int)) = (0 : Int)))
      (bd
        (grd (lenOk (chainS a0))
          (((addS (chainS a0) (a1.tmod (IntKind.u64.wrap (x1.1.1 + (1 : Int))), a2)).1,
              (addS (chainS a0) (a1.tmod (IntKind.u64.wrap (x1.1.1 + (1 : Int))), a2)).2, ()),
            (), (), ()))
        fun (x2 : (List (Int × Int) × Int × Unit) × Unit × Unit × Unit) =>
        br (!false)
          (bd
            (grd (lenOk (chainS a0))
              (((addS (chainS a0) (IntKind.u64.wrap (IntKind.u64.wrap (x1.1.1 + (1 : Int)) + a1.tmod (9 : Int)), a2)).1,
                  (addS (chainS a0) (IntKind.u64.wrap (IntKind.u64.wrap (x1.1.1 + (1 : Int)) + a1.tmod (9 : Int)), a2)).2, ()),
                (), (), ()))
            fun (x3 : (List (Int × Int) × Int × Unit) × Unit × Unit × Unit) =>
            br (x2.1.2.1 != (1 : Int)) (some ((false, ()), (), (), (), (), ()))
              (br (x3.1.2.1 != (0 : Int)) (some ((false, ()), (), (), (), (), ()))
                (bd (grd (lenOk x3.1.1) ((rightFrom (0 : Int) x3.1.1, ()), (), ()))
                  fun (x4 : (Bool × Unit) × Unit × Unit) =>
                  br (!x4.1.1) (some ((false, ()), (), (), (), (), ()))
                    (br ((↑x3.1.1.length : Int) != IntKind.i64.wrap ((↑(chainS a0).length : Int) + (1 : Int)))
                      (some ((false, ()), (), (), (), (), ()))
                      (bd (grd (lenOk x3.1.1) ((newS x3.1.1, ()), (), ())) fun (x5 : (Int × Unit) × Unit × Unit) =>
                        br (x5.1.1 != IntKind.u64.wrap (IntKind.u64.wrap (x1.1.1 + (1 : Int)) + a1.tmod (9 : Int)))
                          (some ((false, ()), (), (), (), (), ()))
                          (br (!false)
                            (br (decide (a3.tmod (140 : Int) ≥ IntKind.u64.wrap (IntKind.u64.wrap (x1.1.1 + (1 : Int)) + a1.tmod (9 : Int))))
                              (bd
                                (grd (lenOk x3.1.1 && rightFrom (0 : Int) x3.1.1)
                                  ((atV x3.1.1 (a3.tmod (140 : Int)), ()), (), (), ()))
                                fun (x6 : (Int × Unit) × Unit × Unit × Unit) =>
                                some ((x6.1.1 == a2, ()), (), (), (), (), ()))
                              (bd
                                (grd (lenOk x3.1.1 && rightFrom (0 : Int) x3.1.1)
                                  ((atV x3.1.1 (a3.tmod (140 : Int)), ()), (), (), ()))
                                fun (x7 : (Int × Unit) × Unit × Unit × Unit) =>
                                bd
                                  (grd (lenOk (chainS a0) && rightFrom (0 : Int) (chainS a0))
                                    ((atV (chainS a0) (a3.tmod (140 : Int)), ()), (), (), ()))
                                  fun (x8 : (Int × Unit) × Unit × Unit × Unit) =>
                                  some ((x7.1.1 == x8.1.1, ()), (), (), (), (), ())))
                            none))))))
          none)
      none)
theorem lChainGrows_rn (K : Nat) (a0 : List
  Int) (a1 : Int) (a2 : Int) (a3 : Int) : runF (cfgW g_lChainGrows) K f_lChainGrows lChainGrows_tm [.val (.slice tI), .val tU, .val tW, .val tU] [.val .bool] (a0, a1, a2, a3, ()) = lChainGrows_P K a0 a1 a2 a3 := by kernel_rfl
abbrev g_lChainMany : List (Nat × Ctr O0) := [(n_awake16, c_awake16), (n_within, c_within), (n_digit, c_digit), (n_chainAdd, c_chainAdd), (n_trim, c_trim), (n_chainAt, c_chainAt), (n_newest, c_newest)]
def lChainMany_tm : List (List (Nat × SSh O0)) := [[((0 : Nat), SSh.one (CSh.ro (Ty.int IntKind.i64))), ((1 : Nat), SSh.one (CSh.int IntKind.u64)),
    ((5 : Nat), SSh.one (CSh.own ((Ty.int IntKind.u64).pair (Ty.int IntKind.u16)))), ((6 : Nat), SSh.one (CSh.own (Ty.int IntKind.u64))),
    ((7 : Nat), SSh.one (CSh.own (Ty.int IntKind.u16))), ((8 : Nat), SSh.one (CSh.int IntKind.u64)), ((9 : Nat), SSh.one (CSh.int IntKind.u64)),
    ((10 : Nat), SSh.one (CSh.int IntKind.i64))],
  [((0 : Nat), SSh.one (CSh.ro (Ty.int IntKind.i64))), ((1 : Nat), SSh.one (CSh.int IntKind.u64)),
    ((5 : Nat), SSh.one (CSh.own ((Ty.int IntKind.u64).pair (Ty.int IntKind.u16)))), ((6 : Nat), SSh.one (CSh.own (Ty.int IntKind.u64))),
    ((7 : Nat), SSh.one (CSh.own (Ty.int IntKind.u16))), ((8 : Nat), SSh.one (CSh.int IntKind.u64)), ((14 : Nat), SSh.one (CSh.int IntKind.u16)),
    ((15 : Nat), SSh.one (CSh.int IntKind.i64))]]
def lChainMany_L1 (rec17 : List Int × Int × List (Int × Int) × List Int × List Int × Int × Int × Int × Unit →
  Option
    ((Bool × Unit) ×
      Unit ×
        Unit ×
          Unit)) : List Int × Int × List (Int × Int) × List Int × List Int × Int × Int × Int × Unit →
  Option ((Bool × Unit) × Unit × Unit × Unit) := fun (y19, y20, y21, y22, y23, y24, y25, y26, ()) =>
  br (decide (y26 < (↑y22.length : Int)))
  (br (decide ((0 : Int) ≤ y26))
    (br (decide (y26 < (↑y22.length : Int)))
      (br (decide (y22.getD y26.toNat (0 : Int) ≤ y20))
        (br (decide ((0 : Int) ≤ y26))
          (br (decide (y26 < (↑y23.length : Int)))
            (rec17 (y19, y20, y21, y22, y23, y24, y23.getD y26.toNat (0 : Int), IntKind.i64.wrap (y26 + (1 : Int)), ())) none)
          none)
        (rec17 (y19, y20, y21, y22, y23, y24, y25, IntKind.i64.wrap (y26 + (1 : Int)), ())))
      none)
    none)
  (bd (grd (lenOk y21 && rightFrom (0 : Int) y21) ((atV y21 y20, ()), (), (), ()))
    fun (x27 : (Int × Unit) × Unit × Unit × Unit) =>
    br (x27.1.1 == y25)
      (bd (grd (lenOk y21) ((newS y21, ()), (), ())) fun (x28 : (Int × Unit) × Unit × Unit) =>
        br (x28.1.1 == y24) (some ((decide ((↑y21.length : Int) ≤ (↑y19.length : Int)), ()), (), (), ()))
          (some ((false, ()), (), (), ())))
      (some ((false, ()), (), (), ())))
def lChainMany_L2 (K : Nat) (rec1 : List Int × Int × List (Int × Int) × List Int × List Int × Int × Int × Int × Unit →
  Option
    ((Bool × Unit) ×
      Unit ×
        Unit ×
          Unit)) : List Int × Int × List (Int × Int) × List Int × List Int × Int × Int × Int × Unit →
  Option ((Bool × Unit) × Unit × Unit × Unit) := fun (y3, y4, y5, y6, y7, y8, y9, y10, ()) =>
  br (decide (y10 < (↑y3.length : Int)))
  (br (decide ((0 : Int) ≤ y10))
    (br (decide (y10 < (↑y3.length : Int)))
      (bd
        (grd (true && decide ((4 : Int) < (4611686018427387904 : Int)))
          ((y3.getD y10.toNat (0 : Int) % (4 : Int), ()), (), (), ()))
        fun (x11 : (Int × Unit) × Unit × Unit × Unit) =>
        br (decide ((0 : Int) ≤ y10))
          (br (decide (y10 < (↑y3.length : Int)))
            (bd
              (grd (decide ((0 : Int) < (4 : Int)) && (decide ((0 : Int) < (65536 : Int)) && decide ((65536 : Int) < (4611686018427387904 : Int))))
                ((digitS (y3.getD y10.toNat (0 : Int)) (4 : Int) (65536 : Int), ()), (), (), (), ()))
              fun (x12 : (Int × Unit) × Unit × Unit × Unit × Unit) =>
              bd
                (grd (lenOk y5)
                  (((addS y5 (IntKind.u64.wrap (IntKind.u64.wrap (y8 + (1 : Int)) + IntKind.u64.wrap x11.1.1), IntKind.u16.wrap x12.1.1)).1,
                      (addS y5 (IntKind.u64.wrap (IntKind.u64.wrap (y8 + (1 : Int)) + IntKind.u64.wrap x11.1.1), IntKind.u16.wrap x12.1.1)).2,
                      ()),
                    (), (), ()))
                fun (x13 : (List (Int × Int) × Int × Unit) × Unit × Unit × Unit) =>
                br (x13.1.2.1 != (0 : Int)) (some ((false, ()), (), (), ()))
                  (br
                    (decide
                      ((y6.length + [IntKind.u64.wrap (IntKind.u64.wrap (y8 + (1 : Int)) + IntKind.u64.wrap x11.1.1)].length) * (8 : Nat) ≤ LIM))
                    (br (decide (y6.length + [IntKind.u64.wrap (IntKind.u64.wrap (y8 + (1 : Int)) + IntKind.u64.wrap x11.1.1)].length ≤ LIM))
                      (br (decide ((y7.length + [IntKind.u16.wrap x12.1.1].length) * (2 : Nat) ≤ LIM))
                        (br (decide (y7.length + [IntKind.u16.wrap x12.1.1].length ≤ LIM))
                          (br (decide ((0 : Int) ≤ y10))
                            (br (decide (y10 < (↑y3.length : Int)))
                              (bd
                                (grd
                                  (decide ((0 : Int) < (262144 : Int)) &&
                                    (decide ((0 : Int) < (3 : Int)) && decide ((3 : Int) < (4611686018427387904 : Int))))
                                  ((digitS (y3.getD y10.toNat (0 : Int)) (262144 : Int) (3 : Int), ()), (), (), (),
                                    ()))
                                fun (x14 : (Int × Unit) × Unit × Unit × Unit × Unit) =>
                                br (x14.1.1 == (0 : Int))
                                  (br (decide ((0 : Int) ≤ y10))
                                    (br (decide (y10 < (↑y3.length : Int)))
                                      (bd
                                        (grd
                                          (decide ((0 : Int) < (786432 : Int)) &&
                                            (decide ((0 : Int) < (6 : Int)) && decide ((6 : Int) < (4611686018427387904 : Int))))
                                          ((digitS (y3.getD y10.toNat (0 : Int)) (786432 : Int) (6 : Int), ()), (), (),
                                            (), ()))
                                        fun (x15 : (Int × Unit) × Unit × Unit × Unit × Unit) =>
                                        bd
                                          (grd (lenOk x13.1.1 && rightFrom (0 : Int) x13.1.1)
                                            ((trimS x13.1.1
                                                  (maxI y9
                                                    (IntKind.u64.wrap
                                                      (IntKind.u64.wrap (IntKind.u64.wrap (y8 + (1 : Int)) + IntKind.u64.wrap x11.1.1) -
                                                        minI (IntKind.u64.wrap (IntKind.u64.wrap (y8 + (1 : Int)) + IntKind.u64.wrap x11.1.1))
                                                          (IntKind.u64.wrap x15.1.1)))),
                                                ()),
                                              (), (), ()))
                                          fun (x16 : (List (Int × Int) × Unit) × Unit × Unit × Unit) =>
                                          rec1
                                            (y3, y4, x16.1.1,
                                              cat y6 [IntKind.u64.wrap (IntKind.u64.wrap (y8 + (1 : Int)) + IntKind.u64.wrap x11.1.1)],
                                              cat y7 [IntKind.u16.wrap x12.1.1],
                                              IntKind.u64.wrap (IntKind.u64.wrap (y8 + (1 : Int)) + IntKind.u64.wrap x11.1.1),
                                              maxI y9
                                                (IntKind.u64.wrap
                                                  (IntKind.u64.wrap (IntKind.u64.wrap (y8 + (1 : Int)) + IntKind.u64.wrap x11.1.1) -
                                                    minI (IntKind.u64.wrap (IntKind.u64.wrap (y8 + (1 : Int)) + IntKind.u64.wrap x11.1.1))
                                                      (IntKind.u64.wrap x15.1.1))),
                                              IntKind.i64.wrap (y10 + (1 : Int)), ()))
                                      none)
                                    none)
                                  (rec1
                                    (y3, y4, x13.1.1, cat y6 [IntKind.u64.wrap (IntKind.u64.wrap (y8 + (1 : Int)) + IntKind.u64.wrap x11.1.1)],
                                      cat y7 [IntKind.u16.wrap x12.1.1],
                                      IntKind.u64.wrap (IntKind.u64.wrap (y8 + (1 : Int)) + IntKind.u64.wrap x11.1.1), y9,
                                      IntKind.i64.wrap (y10 + (1 : Int)), ())))
                              none)
                            none)
                          none)
                        none)
                      none)
                    none))
            none)
          none)
      none)
    none)
  (br (!false) (loopN lChainMany_L1 K (y3, IntKind.u64.wrap (y9 + y4.tmod (140 : Int)), y5, y6, y7, y8, (0 : Int), (0 : Int), ())) none)
def lChainMany_P (K : Nat) (a0 : List Int) (a1 : Int) : Option ((Bool × Unit) × Unit × Unit × Unit) :=
  br (decide ((↑a0.length : Int) > (30 : Int))) (some ((true, ()), (), (), ()))
  (br (!true) (some ((true, ()), (), (), ()))
    (loopN (lChainMany_L2 K) K (a0, a1, [], [], [], (0 : Int), (0 : Int), (0 : Int), ())))
theorem lChainMany_rn (K : Nat) (a0 : List
  Int) (a1 : Int) : runF (cfgW g_lChainMany) K f_lChainMany lChainMany_tm [.val (.slice tI), .val tU] [.val .bool] (a0, a1, ()) = lChainMany_P K a0 a1 := by kernel_rfl
abbrev g_awake16 : List (Nat × Ctr O0) := [(n_trim, c_trim), (n_chainAt, c_chainAt), (n_chainRight, c_chainRight)]
theorem awake16_rn : runF (cfgW g_awake16) 0 f_awake16 [] [] [.val .bool] () = some ((true, ()), ()) := by kernel_rfl
end
end Go.BB
