/- A symbolic machine for the model's code, and what it shows of this seat's functions. No conditions. -/
import Derived.Test.YtnofmeckcimodaaBN
import Derived.Test.YtnofmeckcimodaaBGstore3
import Derived.Test.YtnofmeckcimodaaBSStore
set_option linter.unusedSimpArgs false
set_option linter.unusedVariables false
namespace Go.BB
open Go Go.Proofs
set_option maxRecDepth 100000
set_option exponentiation.threshold 100000
noncomputable section
abbrev g_stGc : List (Nat × Ctr O0) := [(n_trim, c_trim)]
def stGc_tm : List Tm := [[((64 : Nat), none, Sh.unit),
    ((0 : Nat), some (0 : Nat),
      ((Sh.val (Ty.int IntKind.u64)).cons
          ((Sh.val (Ty.int IntKind.i64)).cons
            ((Sh.val (Ty.int IntKind.i64)).cons
              ((Sh.map (MapK.mapS ((Ty.int IntKind.i64).pair (Ty.int IntKind.i64)) ((Ty.int IntKind.u64).pair (Ty.int IntKind.u16)))).cons
                Sh.unit)))).ptr),
    ((1 : Nat), none, Sh.val (Ty.int IntKind.u64)), ((5 : Nat), none, Sh.val (Ty.int IntKind.i64))]]
def stGc_R1 (k1 : Nat) (rec2 : (Int × Int × Int × List ((Int × Int) × List (Int × Int)) × Unit) × Int × Int × Unit →
  Option
    ((Int × Unit) ×
      (Int × Int × Int × List ((Int × Int) × List (Int × Int)) × Unit) ×
        Unit ×
          Unit)) : (Int × Int × Int × List ((Int × Int) × List (Int × Int)) × Unit) × Int × Int × Unit →
  Option ((Int × Unit) × (Int × Int × Int × List ((Int × Int) × List (Int × Int)) × Unit) × Unit × Unit) := fun (y4, y5, y6, ()) =>
  bd
  (grd (lenOk (y4.2.2.2.1.getD k1 (((0 : Int), (0 : Int)), [])).2 && rightFrom (0 : Int) (y4.2.2.2.1.getD k1 (((0 : Int), (0 : Int)), [])).2)
    ((trimS (y4.2.2.2.1.getD k1 (((0 : Int), (0 : Int)), [])).2 y5, ()), (), (), ()))
  fun (x7 : (List (Int × Int) × Unit) × Unit × Unit × Unit) =>
  br
    (isIx
      (midx (eqD ((Ty.int IntKind.i64).pair (Ty.int IntKind.i64))) y4.2.2.2.1
        ((y4.2.2.2.1.getD k1 (((0 : Int), (0 : Int)), [])).1.1, (y4.2.2.2.1.getD k1 (((0 : Int), (0 : Int)), [])).1.2))
      k1)
    (rec2
      ((y4.1, y4.2.1, y4.2.2.1, mput y4.2.2.2.1 (some k1) x7.1.1, ()), y5,
        IntKind.i64.wrap (y6 + IntKind.i64.wrap ((↑(y4.2.2.2.1.getD k1 (((0 : Int), (0 : Int)), [])).2.length : Int) - (↑x7.1.1.length : Int))),
        ()))
    none
def stGc_E2 : (Int × Int × Int × List ((Int × Int) × List (Int × Int)) × Unit) × Int × Int × Unit →
  Option ((Int × Unit) × (Int × Int × Int × List ((Int × Int) × List (Int × Int)) × Unit) × Unit × Unit) := fun (y8, y9, y10, ()) =>
  some ((y10, ()), (y8.1, IntKind.i64.wrap (y8.2.1 - y10), y8.2.2.1, y8.2.2.2.1, ()), (), ())
def stGc_P (K : Nat) (a0 : Int ×
  Int ×
    Int ×
      List ((Int × Int) × List (Int × Int)) ×
        Unit) (a1 : Int) : Option ((Int × Unit) × (Int × Int × Int × List ((Int × Int) × List (Int × Int)) × Unit) × Unit × Unit) :=
  rngN stGc_R1 stGc_E2 (mlen (MapK.mapS ((Ty.int IntKind.i64).pair (Ty.int IntKind.i64)) ((Ty.int IntKind.u64).pair (Ty.int IntKind.u16))) a0.2.2.2.1)
  (rangeL (mlen (MapK.mapS ((Ty.int IntKind.i64).pair (Ty.int IntKind.i64)) ((Ty.int IntKind.u64).pair (Ty.int IntKind.u16))) a0.2.2.2.1))
  ((a0.1, a0.2.1, a0.2.2.1, a0.2.2.2.1, ()), a1, (0 : Int), ())
theorem stGc_rn (K : Nat) (a0 : Int ×
  Int ×
    Int ×
      List ((Int × Int) × List (Int × Int)) ×
        Unit) (a1 : Int) : runF (cfgW g_stGc) K f_stGc stGc_tm [.box shStore, .val tU] [.val tI] (a0, a1, ()) = stGc_P K a0 a1 := by kernel_rfl
abbrev g_rstGc : List (Nat × Ctr O0) := [(n_rtrim, c_rtrim)]
def rstGc_tm : List Tm := [[((0 : Nat), some (0 : Nat),
      ((Sh.val (Ty.int IntKind.u64)).cons
          ((Sh.val (Ty.int IntKind.i64)).cons
            ((Sh.own (((Ty.int IntKind.i64).pair (Ty.int IntKind.i64)).pair ((Ty.int IntKind.u64).pair (Ty.int IntKind.u16)).slice)).cons
              Sh.unit))).ptr),
    ((1 : Nat), none, Sh.val (Ty.int IntKind.u64)), ((5 : Nat), none, Sh.val (Ty.int IntKind.i64)), ((6 : Nat), none, Sh.val (Ty.int IntKind.i64))]]
def rstGc_L1 (rec1 : (Int × Int × List ((Int × Int) × List (Int × Int)) × Unit) × Int × Int × Int × Unit →
  Option
    ((Int × Unit) ×
      (Int × Int × List ((Int × Int) × List (Int × Int)) × Unit) ×
        Unit ×
          Unit)) : (Int × Int × List ((Int × Int) × List (Int × Int)) × Unit) × Int × Int × Int × Unit →
  Option ((Int × Unit) × (Int × Int × List ((Int × Int) × List (Int × Int)) × Unit) × Unit × Unit) := fun (y3, y4, y5, y6, ()) =>
  br (decide (y6 < (↑y3.2.2.1.length : Int)))
  (br (decide ((0 : Int) ≤ y6))
    (br (decide (y6 < (↑y3.2.2.1.length : Int)))
      (bd
        (grd
          (lenOk (y3.2.2.1.getD y6.toNat (((0 : Int), (0 : Int)), [])).2 &&
            rightFrom (0 : Int) (y3.2.2.1.getD y6.toNat (((0 : Int), (0 : Int)), [])).2)
          ((trimS (y3.2.2.1.getD y6.toNat (((0 : Int), (0 : Int)), [])).2 y4, ()), (), (), ()))
        fun (x7 : (List (Int × Int) × Unit) × Unit × Unit × Unit) =>
        br (decide ((0 : Int) ≤ y6))
          (br (decide (y6 < (↑y3.2.2.1.length : Int)))
            (br (decide ((0 : Int) ≤ y6))
              (br (decide (y6 < (↑y3.2.2.1.length : Int)))
                (rec1
                  ((y3.1, y3.2.1, y3.2.2.1.set y6.toNat ((y3.2.2.1.getD y6.toNat (((0 : Int), (0 : Int)), [])).1, x7.1.1), ()), y4,
                    IntKind.i64.wrap
                      (IntKind.i64.wrap (y5 + (↑(List.length (y3.2.2.1.getD y6.toNat (((0 : Int), (0 : Int)), [])).2) : Int)) -
                        (↑x7.1.1.length : Int)),
                    IntKind.i64.wrap (y6 + (1 : Int)), ()))
                none)
              none)
            none)
          none)
      none)
    none)
  (some ((y5, ()), (y3.1, y3.2.1, y3.2.2.1, ()), (), ()))
def rstGc_P (K : Nat) (a0 : Int ×
  Int ×
    List ((Int × Int) × List (Int × Int)) ×
      Unit) (a1 : Int) : Option ((Int × Unit) × (Int × Int × List ((Int × Int) × List (Int × Int)) × Unit) × Unit × Unit) :=
  loopN rstGc_L1 K ((a0.1, a0.2.1, a0.2.2.1, ()), a1, (0 : Int), (0 : Int), ())
theorem rstGc_rn (K : Nat) (a0 : Int ×
  Int ×
    List ((Int × Int) × List (Int × Int)) ×
      Unit) (a1 : Int) : runF (cfgW g_rstGc) K f_rstGc rstGc_tm [.box shRef, .val tU] [.val tI] (a0, a1, ()) = rstGc_P K a0 a1 := by kernel_rfl
end
end Go.BB
set_option linter.unusedVariables false
namespace Go.BB
open Go Go.Proofs
set_option maxRecDepth 100000
set_option exponentiation.threshold 100000
noncomputable section
abbrev g_upto : List (Nat × Ctr O0) := []
def upto_tm : List Tm := [[((0 : Nat), none, Sh.val ((Ty.int IntKind.u64).pair (Ty.int IntKind.u16)).slice), ((1 : Nat), none, Sh.val (Ty.int IntKind.u64)),
    ((5 : Nat), none, Sh.val (Ty.int IntKind.i64)), ((6 : Nat), none, Sh.val (Ty.int IntKind.i64))]]
def upto_L1 (rec1 : List (Int × Int) × Int × Int × Int × Unit →
  Option
    ((Int × Unit) ×
      Unit ×
        Unit × Unit)) : List (Int × Int) × Int × Int × Int × Unit → Option ((Int × Unit) × Unit × Unit × Unit) := fun (y3, y4, y5, y6, ()) =>
  br (decide (y5 < y6))
  (br (decide ((0 : Int) ≤ (IntKind.i64.wrap (y5 + y6)).fdiv ((2 : Int) ^ min (Int.toNat (1 : Int)) (64 : Nat))))
    (br (decide ((IntKind.i64.wrap (y5 + y6)).fdiv ((2 : Int) ^ min (Int.toNat (1 : Int)) (64 : Nat)) < (↑y3.length : Int)))
      (br
        (decide
          ((y3.getD ((IntKind.i64.wrap (y5 + y6)).fdiv ((2 : Int) ^ min (Int.toNat (1 : Int)) (64 : Nat))).toNat ((0 : Int), (0 : Int))).1 ≤ y4))
        (rec1
          (y3, y4, IntKind.i64.wrap ((IntKind.i64.wrap (y5 + y6)).fdiv ((2 : Int) ^ min (Int.toNat (1 : Int)) (64 : Nat)) + (1 : Int)), y6,
            ()))
        (rec1 (y3, y4, y5, (IntKind.i64.wrap (y5 + y6)).fdiv ((2 : Int) ^ min (Int.toNat (1 : Int)) (64 : Nat)), ())))
      none)
    none)
  (some ((y5, ()), (), (), ()))
def upto_P (K : Nat) (a0 : List (Int × Int)) (a1 : Int) : Option ((Int × Unit) × Unit × Unit × Unit) :=
  loopN upto_L1 K (a0, a1, (0 : Int), (↑a0.length : Int), ())
theorem upto_rn (K : Nat) (a0 : List
  (Int × Int)) (a1 : Int) : runF (cfgW g_upto) K f_upto upto_tm [.val (.slice tVer), .val tU] [.val tI] (a0, a1, ()) = upto_P K a0 a1 := by kernel_rfl
abbrev g_chainAt : List (Nat × Ctr O0) := [(n_upto, c_upto)]
def chainAt_tm : List Tm := []
def chainAt_P (K : Nat) (a0 : List (Int × Int)) (a1 : Int) : Option ((Int × Unit) × Unit × Unit × Unit) :=
  bd (grd (lenOk a0 && rightFrom (0 : Int) a0) (((↑(cnt a0 a1) : Int), ()), (), (), ()))
  fun (x1 : (Int × Unit) × Unit × Unit × Unit) =>
  br (x1.1.1 == (0 : Int)) (some (((0 : Int), ()), (), (), ()))
    (br (decide ((0 : Int) ≤ IntKind.i64.wrap (x1.1.1 - (1 : Int))))
      (br (decide (IntKind.i64.wrap (x1.1.1 - (1 : Int)) < (↑a0.length : Int)))
        (some (((a0.getD (IntKind.i64.wrap (x1.1.1 - (1 : Int))).toNat ((0 : Int), (0 : Int))).2, ()), (), (), ()))
        none)
      none)
theorem chainAt_rn (K : Nat) (a0 : List
  (Int ×
    Int)) (a1 : Int) : runF (cfgW g_chainAt) K f_chainAt chainAt_tm [.val (.slice tVer), .val tU] [.val tW] (a0, a1, ()) = chainAt_P K a0 a1 := by kernel_rfl
abbrev g_rchainAt : List (Nat × Ctr O0) := []
def rchainAt_tm : List Tm := [[((0 : Nat), none, Sh.val ((Ty.int IntKind.u64).pair (Ty.int IntKind.u16)).slice), ((1 : Nat), none, Sh.val (Ty.int IntKind.u64)),
    ((5 : Nat), none, Sh.val (Ty.int IntKind.u16)), ((6 : Nat), none, Sh.val (Ty.int IntKind.i64))]]
def rchainAt_L1 (rec1 : List (Int × Int) × Int × Int × Int × Unit →
  Option
    ((Int × Unit) ×
      Unit ×
        Unit × Unit)) : List (Int × Int) × Int × Int × Int × Unit → Option ((Int × Unit) × Unit × Unit × Unit) := fun (y3, y4, y5, y6, ()) =>
  br (decide (y6 < (↑y3.length : Int)))
  (br (decide ((0 : Int) ≤ y6))
    (br (decide (y6 < (↑y3.length : Int)))
      (br (decide ((y3.getD y6.toNat ((0 : Int), (0 : Int))).1 ≤ y4))
        (br (decide ((0 : Int) ≤ y6))
          (br (decide (y6 < (↑y3.length : Int)))
            (rec1 (y3, y4, (y3.getD y6.toNat ((0 : Int), (0 : Int))).2, IntKind.i64.wrap (y6 + (1 : Int)), ())) none)
          none)
        (some ((y5, ()), (), (), ())))
      none)
    none)
  (some ((y5, ()), (), (), ()))
def rchainAt_P (K : Nat) (a0 : List (Int × Int)) (a1 : Int) : Option ((Int × Unit) × Unit × Unit × Unit) :=
  loopN rchainAt_L1 K (a0, a1, (0 : Int), (0 : Int), ())
theorem rchainAt_rn (K : Nat) (a0 : List
  (Int ×
    Int)) (a1 : Int) : runF (cfgW g_rchainAt) K f_rchainAt rchainAt_tm [.val (.slice tVer), .val tU] [.val tW] (a0, a1, ()) = rchainAt_P K a0 a1 := by kernel_rfl
abbrev g_newest : List (Nat × Ctr O0) := []
def newest_tm : List Tm := []
def newest_P (K : Nat) (a0 : List (Int × Int)) : Option ((Int × Unit) × Unit × Unit) :=
  br ((↑a0.length : Int) == (0 : Int)) (some (((0 : Int), ()), (), ()))
  (br (decide ((0 : Int) ≤ IntKind.i64.wrap ((↑a0.length : Int) - (1 : Int))))
    (br (decide (IntKind.i64.wrap ((↑a0.length : Int) - (1 : Int)) < (↑a0.length : Int)))
      (some (((a0.getD (IntKind.i64.wrap ((↑a0.length : Int) - (1 : Int))).toNat ((0 : Int), (0 : Int))).1, ()), (), ()))
      none)
    none)
theorem newest_rn (K : Nat) (a0 : List
  (Int × Int)) : runF (cfgW g_newest) K f_newest newest_tm [.val (.slice tVer)] [.val tU] (a0, ()) = newest_P K a0 := by kernel_rfl
abbrev g_rnewest : List (Nat × Ctr O0) := []
def rnewest_tm : List Tm := []
def rnewest_P (K : Nat) (a0 : List (Int × Int)) : Option ((Int × Unit) × Unit × Unit) :=
  br ((↑a0.length : Int) == (0 : Int)) (some (((0 : Int), ()), (), ()))
  (br (decide ((0 : Int) ≤ IntKind.i64.wrap ((↑a0.length : Int) - (1 : Int))))
    (br (decide (IntKind.i64.wrap ((↑a0.length : Int) - (1 : Int)) < (↑a0.length : Int)))
      (some (((a0.getD (IntKind.i64.wrap ((↑a0.length : Int) - (1 : Int))).toNat ((0 : Int), (0 : Int))).1, ()), (), ()))
      none)
    none)
theorem rnewest_rn (K : Nat) (a0 : List
  (Int × Int)) : runF (cfgW g_rnewest) K f_rnewest rnewest_tm [.val (.slice tVer)] [.val tU] (a0, ()) = rnewest_P K a0 := by kernel_rfl
abbrev g_rchainAdd : List (Nat × Ctr O0) := [(n_rnewest, c_rnewest)]
def rchainAdd_tm : List Tm := []
def rchainAdd_P (K : Nat) (a0 : List (Int × Int)) (a1 : Int × Int) : Option ((List (Int × Int) × Int × Unit) × Unit × Unit × Unit) :=
  bd (grd (lenOk a0) ((newS a0, ()), (), ())) fun (x1 : (Int × Unit) × Unit × Unit) =>
  br (decide (a1.1 ≤ x1.1.1)) (some (([], (1 : Int), ()), (), (), ()))
    (br (decide (a0.length * (16 : Nat) ≤ LIM))
      (br (decide (a0.length ≤ LIM))
        (br (decide ((a0.length + [(a1.1, a1.2)].length) * (16 : Nat) ≤ LIM))
          (br (decide (a0.length + [(a1.1, a1.2)].length ≤ LIM))
            (some ((cat a0 [(a1.1, a1.2)], (0 : Int), ()), (), (), ())) none)
          none)
        none)
      none)
theorem rchainAdd_rn (K : Nat) (a0 : List
  (Int ×
    Int)) (a1 : Int ×
  Int) : runF (cfgW g_rchainAdd) K f_rchainAdd rchainAdd_tm [.val (.slice tVer), .val tVer] [.own tVer, .val tI] (a0, a1, ()) = rchainAdd_P K a0 a1 := by kernel_rfl
abbrev g_trim : List (Nat × Ctr O0) := [(n_upto, c_upto), (n_cloneVersions, c_cloneVersions)]
def trim_tm : List Tm := []
def trim_P (K : Nat) (a0 : List (Int × Int)) (a1 : Int) : Option ((List (Int × Int) × Unit) × Unit × Unit × Unit) :=
  bd (grd (lenOk a0 && rightFrom (0 : Int) a0) (((↑(cnt a0 a1) : Int), ()), (), (), ()))
  fun (x1 : (Int × Unit) × Unit × Unit × Unit) =>
  br (decide ((0 : Int) ≤ maxI (IntKind.i64.wrap (x1.1.1 - (1 : Int))) (0 : Int)))
    (br (decide (maxI (IntKind.i64.wrap (x1.1.1 - (1 : Int))) (0 : Int) ≤ (↑a0.length : Int)))
      (bd
        (grd
          (decide
            ((List.take (a0.length - (maxI (IntKind.i64.wrap (x1.1.1 - (1 : Int))) (0 : Int)).toNat)
                  (List.drop (maxI (IntKind.i64.wrap (x1.1.1 - (1 : Int))) (0 : Int)).toNat a0)).length <
              (1000000 : Nat)))
          ((List.take (a0.length - (maxI (IntKind.i64.wrap (x1.1.1 - (1 : Int))) (0 : Int)).toNat)
                (List.drop (maxI (IntKind.i64.wrap (x1.1.1 - (1 : Int))) (0 : Int)).toNat a0),
              ()),
            (), ()))
        fun (x2 : (List (Int × Int) × Unit) × Unit × Unit) => some ((x2.1.1, ()), (), (), ()))
      none)
    none
theorem trim_rn (K : Nat) (a0 : List
  (Int ×
    Int)) (a1 : Int) : runF (cfgW g_trim) K f_trim trim_tm [.val (.slice tVer), .val tU] [.own tVer] (a0, a1, ()) = trim_P K a0 a1 := by kernel_rfl
abbrev g_rtrim : List (Nat × Ctr O0) := []
def rtrim_tm : List Tm := [[((0 : Nat), none, Sh.val ((Ty.int IntKind.u64).pair (Ty.int IntKind.u16)).slice), ((1 : Nat), none, Sh.val (Ty.int IntKind.u64)),
    ((5 : Nat), none, Sh.own ((Ty.int IntKind.u64).pair (Ty.int IntKind.u16))), ((6 : Nat), none, Sh.val (Ty.int IntKind.i64))]]
def rtrim_L1 (rec1 : List (Int × Int) × Int × List (Int × Int) × Int × Unit →
  Option
    ((List (Int × Int) × Unit) ×
      Unit ×
        Unit ×
          Unit)) : List (Int × Int) × Int × List (Int × Int) × Int × Unit →
  Option ((List (Int × Int) × Unit) × Unit × Unit × Unit) := fun (y3, y4, y5, y6, ()) =>
  br (decide (y6 < (↑y3.length : Int)))
  (br (decide (IntKind.i64.wrap (y6 + (1 : Int)) < (↑y3.length : Int)))
    (br (decide ((0 : Int) ≤ IntKind.i64.wrap (y6 + (1 : Int))))
      (br (decide (IntKind.i64.wrap (y6 + (1 : Int)) < (↑y3.length : Int)))
        (br (decide ((y3.getD (IntKind.i64.wrap (y6 + (1 : Int))).toNat ((0 : Int), (0 : Int))).1 ≤ y4))
          (rec1 (y3, y4, y5, IntKind.i64.wrap (y6 + (1 : Int)), ()))
          (br (decide ((0 : Int) ≤ y6))
            (br (decide (y6 < (↑y3.length : Int)))
              (br
                (decide
                  ((y5.length + [((y3.getD y6.toNat ((0 : Int), (0 : Int))).1, (y3.getD y6.toNat ((0 : Int), (0 : Int))).2)].length) * (16 : Nat) ≤
                    LIM))
                (br (decide (y5.length + [((y3.getD y6.toNat ((0 : Int), (0 : Int))).1, (y3.getD y6.toNat ((0 : Int), (0 : Int))).2)].length ≤ LIM))
                  (rec1
                    (y3, y4, cat y5 [((y3.getD y6.toNat ((0 : Int), (0 : Int))).1, (y3.getD y6.toNat ((0 : Int), (0 : Int))).2)],
                      IntKind.i64.wrap (y6 + (1 : Int)), ()))
                  none)
                none)
              none)
            none))
        none)
      none)
    (br (decide ((0 : Int) ≤ y6))
      (br (decide (y6 < (↑y3.length : Int)))
        (br
          (decide
            ((y5.length + [((y3.getD y6.toNat ((0 : Int), (0 : Int))).1, (y3.getD y6.toNat ((0 : Int), (0 : Int))).2)].length) * (16 : Nat) ≤ LIM))
          (br (decide (y5.length + [((y3.getD y6.toNat ((0 : Int), (0 : Int))).1, (y3.getD y6.toNat ((0 : Int), (0 : Int))).2)].length ≤ LIM))
            (rec1
              (y3, y4, cat y5 [((y3.getD y6.toNat ((0 : Int), (0 : Int))).1, (y3.getD y6.toNat ((0 : Int), (0 : Int))).2)],
                IntKind.i64.wrap (y6 + (1 : Int)), ()))
            none)
          none)
        none)
      none))
  (some ((y5, ()), (), (), ()))
def rtrim_P (K : Nat) (a0 : List (Int × Int)) (a1 : Int) : Option ((List (Int × Int) × Unit) × Unit × Unit × Unit) :=
  loopN rtrim_L1 K (a0, a1, [], (0 : Int), ())
theorem rtrim_rn (K : Nat) (a0 : List
  (Int ×
    Int)) (a1 : Int) : runF (cfgW g_rtrim) K f_rtrim rtrim_tm [.val (.slice tVer), .val tU] [.own tVer] (a0, a1, ()) = rtrim_P K a0 a1 := by kernel_rfl
end
end Go.BB
