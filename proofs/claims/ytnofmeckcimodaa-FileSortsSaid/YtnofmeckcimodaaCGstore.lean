/- A symbolic machine for the model's code, and what it shows of this seat's functions. No conditions. -/
import Derived.Test.YtnofmeckcimodaaCN
import Derived.Test.YtnofmeckcimodaaCSStore
set_option linter.unusedSimpArgs false
set_option linter.unusedVariables false
namespace Go.BB
open Go Go.Proofs
set_option maxRecDepth 100000
set_option exponentiation.threshold 100000
noncomputable section
abbrev g_kbits : List (Nat × Ctr O0) := []
def kbits_tm : List Tm := []
def kbits_P (K : Nat) (a0 : Int) : Option ((Bool × Unit) × Unit × Unit) :=
  br (a0 == (0 : Int)) (some ((true, ()), (), ())) (some ((a0 == (1 : Int), ()), (), ()))
theorem kbits_rn (K : Nat) (a0 : Int) : runF (cfgW g_kbits) K f_kbits kbits_tm [.val tI] [.val .bool] (a0, ()) = kbits_P K a0 := by kernel_rfl
abbrev g_ckey : List (Nat × Ctr O0) := []
def ckey_tm : List Tm := []
def ckey_P (K : Nat) (a0 : Int × Int) : Option ((Bool × Unit) × Unit × Unit) :=
  br (decide (a0.1 ≥ (0 : Int)))
  (br (decide (a0.1 < (4 : Int)))
    (br (decide (a0.2 ≥ (0 : Int))) (some ((decide (a0.2 < (65536 : Int)), ()), (), ()))
      (some ((false, ()), (), ())))
    (some ((false, ()), (), ())))
  (some ((false, ()), (), ()))
theorem ckey_rn (K : Nat) (a0 : Int × Int) : runF (cfgW g_ckey) K f_ckey ckey_tm [.val tKey] [.val .bool] (a0, ()) = ckey_P K a0 := by kernel_rfl
abbrev g_cright : List (Nat × Ctr O0) := [(n_ckey, c_ckey), (n_kbits, c_kbits)]
def cright_tm : List Tm := []
def cright_P (K : Nat) (a0 : (Int × Int) × Int) : Option ((Bool × Unit) × Unit × Unit) :=
  br (keyR (a0.1.1, a0.1.2))
  (br (decide (a0.2 ≤ (1 : Int))) (some ((true, ()), (), ())) (some ((!isBits a0.1.1, ()), (), ())))
  (some ((false, ()), (), ()))
theorem cright_rn (K : Nat) (a0 : (Int × Int) ×
  Int) : runF (cfgW g_cright) K f_cright cright_tm [.val tCell] [.val .bool] (a0, ()) = cright_P K a0 := by kernel_rfl
abbrev g_once : List (Nat × Ctr O0) := [(n_cright, c_cright)]
def once_tm : List Tm := [[((0 : Nat), none, Sh.val (((Ty.int IntKind.i64).pair (Ty.int IntKind.i64)).pair (Ty.int IntKind.u16)).slice),
    ((3 : Nat), none, Sh.map (MapK.map ((Ty.int IntKind.i64).pair (Ty.int IntKind.i64)) Ty.bool)),
    ((9 : Nat), none, Sh.val (((Ty.int IntKind.i64).pair (Ty.int IntKind.i64)).pair (Ty.int IntKind.u16)).slice),
    ((10 : Nat), none, Sh.val (Ty.int IntKind.i64)), ((11 : Nat), none, Sh.val (Ty.int IntKind.i64))]]
def once_L1 (rec1 : List ((Int × Int) × Int) × List ((Int × Int) × Bool) × List ((Int × Int) × Int) × Int × Int × Unit →
  Option
    ((Bool × Unit) ×
      Unit ×
        Unit)) : List ((Int × Int) × Int) × List ((Int × Int) × Bool) × List ((Int × Int) × Int) × Int × Int × Unit →
  Option ((Bool × Unit) × Unit × Unit) := fun (y3, y4, y5, y6, y7, ()) =>
  br (decide (y7 < y6))
  (br (decide ((0 : Int) ≤ y7))
    (br (decide (y7 < (↑y5.length : Int)))
      (br
        (mgetD (eqD ((Ty.int IntKind.i64).pair (Ty.int IntKind.i64))) y4
          ((y5.getD y7.toNat (((0 : Int), (0 : Int)), (0 : Int))).1.1, (y5.getD y7.toNat (((0 : Int), (0 : Int)), (0 : Int))).1.2) false)
        (some ((false, ()), (), ()))
        (br
          (!celR
              (((y5.getD y7.toNat (((0 : Int), (0 : Int)), (0 : Int))).1.1, (y5.getD y7.toNat (((0 : Int), (0 : Int)), (0 : Int))).1.2),
                (y5.getD y7.toNat (((0 : Int), (0 : Int)), (0 : Int))).2))
          (some ((false, ()), (), ()))
          (rec1
            (y3,
              mset (eqD ((Ty.int IntKind.i64).pair (Ty.int IntKind.i64))) y4
                ((y5.getD y7.toNat (((0 : Int), (0 : Int)), (0 : Int))).1.1, (y5.getD y7.toNat (((0 : Int), (0 : Int)), (0 : Int))).1.2) true,
              y5, y6, IntKind.i64.wrap (y7 + (1 : Int)), ()))))
      none)
    none)
  (some ((decide ((↑y3.length : Int) > (0 : Int)), ()), (), ()))
def once_P (K : Nat) (a0 : List ((Int × Int) × Int)) : Option ((Bool × Unit) × Unit × Unit) :=
  loopN once_L1 K (a0, [], a0, (↑a0.length : Int), (0 : Int), ())
theorem once_rn (K : Nat) (a0 : List
  ((Int × Int) × Int)) : runF (cfgW g_once) K f_once once_tm [.val (.slice tCell)] [.val .bool] (a0, ()) = once_P K a0 := by kernel_rfl
abbrev g_stNew : List (Nat × Ctr O0) := []
def stNew_tm : List Tm := []
def stNew_P (K : Nat) (a0 : Int) (a1 : Int) : Option
  (((Int × Int × Int × List ((Int × Int) × List (Int × Int)) × Unit) × Unit) × Unit × Unit × Unit) :=
  some (((a0, (0 : Int), minI (maxI a1 (0 : Int)) (1048576 : Int), [], ()), ()), (), (), ())
theorem stNew_rn (K : Nat) (a0 : Int) (a1 : Int) : runF (cfgW g_stNew) K f_stNew stNew_tm [.val tU, .val tI] [.box shStore] (a0, a1, ()) = stNew_P K a0 a1 := by kernel_rfl
abbrev g_stLast : List (Nat × Ctr O0) := []
def stLast_tm : List Tm := []
def stLast_P (K : Nat) (a0 : Int ×
  Int ×
    Int ×
      List ((Int × Int) × List (Int × Int)) ×
        Unit) : Option ((Int × Unit) × (Int × Int × Int × List ((Int × Int) × List (Int × Int)) × Unit) × Unit) :=
  some ((a0.1, ()), (a0.1, a0.2.1, a0.2.2.1, a0.2.2.2.1, ()), ())
theorem stLast_rn (K : Nat) (a0 : Int ×
  Int ×
    Int ×
      List ((Int × Int) × List (Int × Int)) ×
        Unit) : runF (cfgW g_stLast) K f_stLast stLast_tm [.box shStore] [.val tU] (a0, ()) = stLast_P K a0 := by kernel_rfl
abbrev g_stVersions : List (Nat × Ctr O0) := []
def stVersions_tm : List Tm := []
def stVersions_P (K : Nat) (a0 : Int ×
  Int ×
    Int ×
      List ((Int × Int) × List (Int × Int)) ×
        Unit) : Option ((Int × Unit) × (Int × Int × Int × List ((Int × Int) × List (Int × Int)) × Unit) × Unit) :=
  some ((a0.2.1, ()), (a0.1, a0.2.1, a0.2.2.1, a0.2.2.2.1, ()), ())
theorem stVersions_rn (K : Nat) (a0 : Int ×
  Int ×
    Int ×
      List ((Int × Int) × List (Int × Int)) ×
        Unit) : runF (cfgW g_stVersions) K f_stVersions stVersions_tm [.box shStore] [.val tI] (a0, ()) = stVersions_P K a0 := by kernel_rfl
abbrev g_stKeys : List (Nat × Ctr O0) := []
def stKeys_tm : List Tm := []
def stKeys_P (K : Nat) (a0 : Int ×
  Int ×
    Int ×
      List ((Int × Int) × List (Int × Int)) ×
        Unit) : Option ((Int × Unit) × (Int × Int × Int × List ((Int × Int) × List (Int × Int)) × Unit) × Unit) :=
  some
  (((↑(mlen (MapK.mapS ((Ty.int IntKind.i64).pair (Ty.int IntKind.i64)) ((Ty.int IntKind.u64).pair (Ty.int IntKind.u16))) a0.2.2.2.1) : Int),
      ()),
    (a0.1, a0.2.1, a0.2.2.1, a0.2.2.2.1, ()), ())
theorem stKeys_rn (K : Nat) (a0 : Int ×
  Int ×
    Int ×
      List ((Int × Int) × List (Int × Int)) ×
        Unit) : runF (cfgW g_stKeys) K f_stKeys stKeys_tm [.box shStore] [.val tI] (a0, ()) = stKeys_P K a0 := by kernel_rfl
abbrev g_stRead : List (Nat × Ctr O0) := [(n_chainAt, c_chainAt)]
def stRead_tm : List Tm := []
def stRead_P (K : Nat) (a0 : Int ×
  Int ×
    Int ×
      List ((Int × Int) × List (Int × Int)) ×
        Unit) (a1 : Int ×
  Int) (a2 : Int) : Option ((Int × Unit) × (Int × Int × Int × List ((Int × Int) × List (Int × Int)) × Unit) × Unit × Unit × Unit) :=
  bd
  (grd
    (lenOk (mval a0.2.2.2.1 (midx (eqD ((Ty.int IntKind.i64).pair (Ty.int IntKind.i64))) a0.2.2.2.1 (a1.1, a1.2))) &&
      rightFrom (0 : Int) (mval a0.2.2.2.1 (midx (eqD ((Ty.int IntKind.i64).pair (Ty.int IntKind.i64))) a0.2.2.2.1 (a1.1, a1.2))))
    ((atV (mval a0.2.2.2.1 (midx (eqD ((Ty.int IntKind.i64).pair (Ty.int IntKind.i64))) a0.2.2.2.1 (a1.1, a1.2))) a2, ()), (),
      (), ()))
  fun (x1 : (Int × Unit) × Unit × Unit × Unit) =>
  some
    ((x1.1.1, ()),
      (a0.1, a0.2.1, a0.2.2.1,
        mput a0.2.2.2.1 (midx (eqD ((Ty.int IntKind.i64).pair (Ty.int IntKind.i64))) a0.2.2.2.1 (a1.1, a1.2))
          (mval a0.2.2.2.1 (midx (eqD ((Ty.int IntKind.i64).pair (Ty.int IntKind.i64))) a0.2.2.2.1 (a1.1, a1.2))),
        ()),
      (), (), ())
theorem stRead_rn (K : Nat) (a0 : Int ×
  Int ×
    Int ×
      List ((Int × Int) × List (Int × Int)) ×
        Unit) (a1 : Int ×
  Int) (a2 : Int) : runF (cfgW g_stRead) K f_stRead stRead_tm [.box shStore, .val tKey, .val tU] [.val tW] (a0, a1, a2, ()) = stRead_P K a0 a1 a2 := by kernel_rfl
abbrev g_stNewest : List (Nat × Ctr O0) := [(n_newest, c_newest)]
def stNewest_tm : List Tm := []
def stNewest_P (K : Nat) (a0 : Int ×
  Int ×
    Int ×
      List ((Int × Int) × List (Int × Int)) ×
        Unit) (a1 : Int × Int) : Option ((Int × Unit) × (Int × Int × Int × List ((Int × Int) × List (Int × Int)) × Unit) × Unit × Unit) :=
  bd
  (grd (lenOk (mval a0.2.2.2.1 (midx (eqD ((Ty.int IntKind.i64).pair (Ty.int IntKind.i64))) a0.2.2.2.1 (a1.1, a1.2))))
    ((newS (mval a0.2.2.2.1 (midx (eqD ((Ty.int IntKind.i64).pair (Ty.int IntKind.i64))) a0.2.2.2.1 (a1.1, a1.2))), ()), (),
      ()))
  fun (x1 : (Int × Unit) × Unit × Unit) =>
  some
    ((x1.1.1, ()),
      (a0.1, a0.2.1, a0.2.2.1,
        mput a0.2.2.2.1 (midx (eqD ((Ty.int IntKind.i64).pair (Ty.int IntKind.i64))) a0.2.2.2.1 (a1.1, a1.2))
          (mval a0.2.2.2.1 (midx (eqD ((Ty.int IntKind.i64).pair (Ty.int IntKind.i64))) a0.2.2.2.1 (a1.1, a1.2))),
        ()),
      (), ())
theorem stNewest_rn (K : Nat) (a0 : Int ×
  Int ×
    Int ×
      List ((Int × Int) × List (Int × Int)) ×
        Unit) (a1 : Int ×
  Int) : runF (cfgW g_stNewest) K f_stNewest stNewest_tm [.box shStore, .val tKey] [.val tU] (a0, a1, ()) = stNewest_P K a0 a1 := by kernel_rfl
abbrev g_stInstall : List (Nat × Ctr O0) := [(n_once, c_once)]
def stInstall_tm : List Tm := [[((0 : Nat), some (0 : Nat),
      ((Sh.val (Ty.int IntKind.u64)).cons
          ((Sh.val (Ty.int IntKind.i64)).cons
            ((Sh.val (Ty.int IntKind.i64)).cons
              ((Sh.map (MapK.mapS ((Ty.int IntKind.i64).pair (Ty.int IntKind.i64)) ((Ty.int IntKind.u64).pair (Ty.int IntKind.u16)))).cons
                Sh.unit)))).ptr),
    ((47 : Nat), none, Sh.val (((Ty.int IntKind.i64).pair (Ty.int IntKind.i64)).pair (Ty.int IntKind.u16)).slice),
    ((48 : Nat), none, Sh.val (Ty.int IntKind.i64)), ((49 : Nat), none, Sh.val (Ty.int IntKind.i64))]]
def stInstall_L1 (rec2 : (Int × Int × Int × List ((Int × Int) × List (Int × Int)) × Unit) × List ((Int × Int) × Int) × Int × Int × Unit →
  Option
    ((Int × Int × Unit) ×
      (Int × Int × Int × List ((Int × Int) × List (Int × Int)) × Unit) ×
        Unit ×
          Unit)) : (Int × Int × Int × List ((Int × Int) × List (Int × Int)) × Unit) × List ((Int × Int) × Int) × Int × Int × Unit →
  Option ((Int × Int × Unit) × (Int × Int × Int × List ((Int × Int) × List (Int × Int)) × Unit) × Unit × Unit) := fun (y4, y5, y6, y7, ()) =>
  br (decide (y7 < y6))
  (br (decide ((0 : Int) ≤ y7))
    (br (decide (y7 < (↑y5.length : Int)))
      (br
        (decide
          (((mval
                    (ment (eqD ((Ty.int IntKind.i64).pair (Ty.int IntKind.i64))) y4.2.2.2.1
                      ((y5.getD y7.toNat (((0 : Int), (0 : Int)), (0 : Int))).1.1, (y5.getD y7.toNat (((0 : Int), (0 : Int)), (0 : Int))).1.2))
                    (midx (eqD ((Ty.int IntKind.i64).pair (Ty.int IntKind.i64)))
                      (ment (eqD ((Ty.int IntKind.i64).pair (Ty.int IntKind.i64))) y4.2.2.2.1
                        ((y5.getD y7.toNat (((0 : Int), (0 : Int)), (0 : Int))).1.1, (y5.getD y7.toNat (((0 : Int), (0 : Int)), (0 : Int))).1.2))
                      ((y5.getD y7.toNat (((0 : Int), (0 : Int)), (0 : Int))).1.1,
                        (y5.getD y7.toNat (((0 : Int), (0 : Int)), (0 : Int))).1.2))).length +
                [(y4.1, (y5.getD y7.toNat (((0 : Int), (0 : Int)), (0 : Int))).2)].length) *
              (16 : Nat) ≤
            LIM))
        (br
          (decide
            ((mval
                    (ment (eqD ((Ty.int IntKind.i64).pair (Ty.int IntKind.i64))) y4.2.2.2.1
                      ((y5.getD y7.toNat (((0 : Int), (0 : Int)), (0 : Int))).1.1, (y5.getD y7.toNat (((0 : Int), (0 : Int)), (0 : Int))).1.2))
                    (midx (eqD ((Ty.int IntKind.i64).pair (Ty.int IntKind.i64)))
                      (ment (eqD ((Ty.int IntKind.i64).pair (Ty.int IntKind.i64))) y4.2.2.2.1
                        ((y5.getD y7.toNat (((0 : Int), (0 : Int)), (0 : Int))).1.1, (y5.getD y7.toNat (((0 : Int), (0 : Int)), (0 : Int))).1.2))
                      ((y5.getD y7.toNat (((0 : Int), (0 : Int)), (0 : Int))).1.1,
                        (y5.getD y7.toNat (((0 : Int), (0 : Int)), (0 : Int))).1.2))).length +
                [(y4.1, (y5.getD y7.toNat (((0 : Int), (0 : Int)), (0 : Int))).2)].length ≤
              LIM))
          (br
            (isSm
              (midx (eqD ((Ty.int IntKind.i64).pair (Ty.int IntKind.i64)))
                (ment (eqD ((Ty.int IntKind.i64).pair (Ty.int IntKind.i64))) y4.2.2.2.1
                  ((y5.getD y7.toNat (((0 : Int), (0 : Int)), (0 : Int))).1.1, (y5.getD y7.toNat (((0 : Int), (0 : Int)), (0 : Int))).1.2))
                ((y5.getD y7.toNat (((0 : Int), (0 : Int)), (0 : Int))).1.1, (y5.getD y7.toNat (((0 : Int), (0 : Int)), (0 : Int))).1.2)))
            (rec2
              ((y4.1, y4.2.1, y4.2.2.1,
                  mput
                    (ment (eqD ((Ty.int IntKind.i64).pair (Ty.int IntKind.i64))) y4.2.2.2.1
                      ((y5.getD y7.toNat (((0 : Int), (0 : Int)), (0 : Int))).1.1, (y5.getD y7.toNat (((0 : Int), (0 : Int)), (0 : Int))).1.2))
                    (midx (eqD ((Ty.int IntKind.i64).pair (Ty.int IntKind.i64)))
                      (ment (eqD ((Ty.int IntKind.i64).pair (Ty.int IntKind.i64))) y4.2.2.2.1
                        ((y5.getD y7.toNat (((0 : Int), (0 : Int)), (0 : Int))).1.1, (y5.getD y7.toNat (((0 : Int), (0 : Int)), (0 : Int))).1.2))
                      ((y5.getD y7.toNat (((0 : Int), (0 : Int)), (0 : Int))).1.1, (y5.getD y7.toNat (((0 : Int), (0 : Int)), (0 : Int))).1.2))
                    (cat
                      (mval
                        (ment (eqD ((Ty.int IntKind.i64).pair (Ty.int IntKind.i64))) y4.2.2.2.1
                          ((y5.getD y7.toNat (((0 : Int), (0 : Int)), (0 : Int))).1.1, (y5.getD y7.toNat (((0 : Int), (0 : Int)), (0 : Int))).1.2))
                        (midx (eqD ((Ty.int IntKind.i64).pair (Ty.int IntKind.i64)))
                          (ment (eqD ((Ty.int IntKind.i64).pair (Ty.int IntKind.i64))) y4.2.2.2.1
                            ((y5.getD y7.toNat (((0 : Int), (0 : Int)), (0 : Int))).1.1, (y5.getD y7.toNat (((0 : Int), (0 : Int)), (0 : Int))).1.2))
                          ((y5.getD y7.toNat (((0 : Int), (0 : Int)), (0 : Int))).1.1, (y5.getD y7.toNat (((0 : Int), (0 : Int)), (0 : Int))).1.2)))
                      [(y4.1, (y5.getD y7.toNat (((0 : Int), (0 : Int)), (0 : Int))).2)]),
                  ()),
                y5, y6, IntKind.i64.wrap (y7 + (1 : Int)), ()))
            none)
          none)
        none)
      none)
    none)
  (some ((y4.1, (0 : Int), ()), (y4.1, y4.2.1, y4.2.2.1, y4.2.2.2.1, ()), (), ()))
def stInstall_P (K : Nat) (a0 : Int ×
  Int ×
    Int ×
      List ((Int × Int) × List (Int × Int)) ×
        Unit) (a1 : List
  ((Int × Int) × Int)) : Option ((Int × Int × Unit) × (Int × Int × Int × List ((Int × Int) × List (Int × Int)) × Unit) × Unit × Unit) :=
  bd (grd (lenOk a1) ((onceS a1, ()), (), ())) fun (x1 : (Bool × Unit) × Unit × Unit) =>
  br (!x1.1.1) (some (((0 : Int), (1 : Int), ()), (a0.1, a0.2.1, a0.2.2.1, a0.2.2.2.1, ()), (), ()))
    (br (a0.1 == (18446744073709551615 : Int))
      (some (((0 : Int), (8 : Int), ()), (a0.1, a0.2.1, a0.2.2.1, a0.2.2.2.1, ()), (), ()))
      (br (decide ((↑a1.length : Int) > IntKind.i64.wrap (a0.2.2.1 - a0.2.1)))
        (some (((0 : Int), (4 : Int), ()), (a0.1, a0.2.1, a0.2.2.1, a0.2.2.2.1, ()), (), ()))
        (loopN stInstall_L1 K
          ((IntKind.u64.wrap (a0.1 + (1 : Int)), IntKind.i64.wrap (a0.2.1 + (↑a1.length : Int)), a0.2.2.1, a0.2.2.2.1, ()), a1,
            (↑a1.length : Int), (0 : Int), ()))))
theorem stInstall_rn (K : Nat) (a0 : Int ×
  Int ×
    Int ×
      List ((Int × Int) × List (Int × Int)) ×
        Unit) (a1 : List
  ((Int × Int) ×
    Int)) : runF (cfgW g_stInstall) K f_stInstall stInstall_tm [.box shStore, .val (.slice tCell)] [.val tU, .val tI] (a0, a1, ()) = stInstall_P K a0 a1 := by kernel_rfl
end
end Go.BB
