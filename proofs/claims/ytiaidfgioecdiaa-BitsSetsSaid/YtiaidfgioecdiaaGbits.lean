/- A symbolic machine for the model's code, and what it shows of this seat's functions. No conditions. -/
import Derived.Test.YtiaidfgioecdiaaN
import Derived.Test.YtiaidfgioecdiaaSBits
set_option linter.unusedSimpArgs false
set_option linter.unusedVariables false
namespace Go.BB
open Go Go.Proofs
set_option maxRecDepth 100000
set_option exponentiation.threshold 100000
noncomputable section
abbrev g_bytes : List (Nat × Ctr O0) := []
def bytes_tm : List (List (Nat × SSh O0)) := []
def bytes_P (K : Nat) (a0 : Int) : Option ((Int × Unit) × Unit × Unit) :=
  br (decide (a0 < (1 : Int))) (some (((0 : Int), ()), (), ()))
  (some
    ((IntKind.i64.wrap ((IntKind.i64.wrap (a0 - (1 : Int))).fdiv ((2 : Int) ^ min (Int.toNat (3 : Int)) (64 : Nat)) + (1 : Int)), ()),
      (), ()))
theorem bytes_rn (K : Nat) (a0 : Int) : runF (cfgW g_bytes) K f_bytes bytes_tm [.val tI] [.val tI] (a0, ()) = bytes_P K a0 := by kernel_rfl
abbrev g_pack : List (Nat × Ctr O0) := [(n_bytes, c_bytes)]
def pack_tm : List (List (Nat × SSh O0)) := [[((3 : Nat), SSh.one (CSh.own (Ty.int IntKind.u8))), ((10 : Nat), SSh.one (CSh.ro Ty.bool)), ((11 : Nat), SSh.one (CSh.int IntKind.i64)),
    ((12 : Nat), SSh.one (CSh.int IntKind.i64))]]
def pack_L1 (rec2 : List Int × List Bool × Int × Int × Unit →
  Option
    ((List Int × Unit) ×
      Unit × Unit)) : List Int × List Bool × Int × Int × Unit → Option ((List Int × Unit) × Unit × Unit) := fun (y4, y5, y6, y7, ()) =>
  br (decide (y7 < y6))
  (br (decide ((0 : Int) ≤ y7))
    (br (decide (y7 < (↑y5.length : Int)))
      (br (y5.getD y7.toNat false)
        (br (decide ((0 : Int) ≤ y7.fdiv ((2 : Int) ^ min (Int.toNat (3 : Int)) (64 : Nat))))
          (br (decide (y7.fdiv ((2 : Int) ^ min (Int.toNat (3 : Int)) (64 : Nat)) < (↑y4.length : Int)))
            (br
              (decide
                ((0 : Int) ≤ IntKind.u64.wrap (IntKind.i64.wrap (↑(BitVec.ofInt (64 : Nat) y7 &&& BitVec.ofInt (64 : Nat) (7 : Int)).toNat : Int))))
              (br (decide ((0 : Int) ≤ y7.fdiv ((2 : Int) ^ min (Int.toNat (3 : Int)) (64 : Nat))))
                (br (decide (y7.fdiv ((2 : Int) ^ min (Int.toNat (3 : Int)) (64 : Nat)) < (↑y4.length : Int)))
                  (rec2
                    (y4.set (y7.fdiv ((2 : Int) ^ min (Int.toNat (3 : Int)) (64 : Nat))).toNat
                        (IntKind.u8.wrap
                          (↑(BitVec.ofInt (8 : Nat) (y4.getD (y7.fdiv ((2 : Int) ^ min (Int.toNat (3 : Int)) (64 : Nat))).toNat (0 : Int)) |||
                                  BitVec.ofInt (8 : Nat)
                                    (IntKind.u8.wrap
                                      ((1 : Int) *
                                        (2 : Int) ^
                                          min
                                            (IntKind.u64.wrap
                                                (IntKind.i64.wrap
                                                  (↑(BitVec.ofInt (64 : Nat) y7 &&& BitVec.ofInt (64 : Nat) (7 : Int)).toNat : Int))).toNat
                                            (8 : Nat)))).toNat :
                            Int)),
                      y5, y6, IntKind.i64.wrap (y7 + (1 : Int)), ()))
                  none)
                none)
              none)
            none)
          none)
        (rec2 (y4, y5, y6, IntKind.i64.wrap (y7 + (1 : Int)), ())))
      none)
    none)
  (some ((y4, ()), (), ()))
def pack_P (K : Nat) (a0 : List Bool) : Option ((List Int × Unit) × Unit × Unit) :=
  bd (grd (isN (↑a0.length : Int)) ((bytesS (↑a0.length : Int), ()), (), ())) fun (x1 : (Int × Unit) × Unit × Unit) =>
  br (decide ((0 : Int) ≤ x1.1.1))
    (br (decide (x1.1.1 ≤ x1.1.1))
      (br (decide (x1.1.1.toNat * (1 : Nat) ≤ LIM))
        (br (decide (x1.1.1.toNat ≤ LIM)) (loopN pack_L1 K (List.replicate x1.1.1.toNat (0 : Int), a0, (↑a0.length : Int), (0 : Int), ()))
          none)
        none)
      none)
    none
theorem pack_rn (K : Nat) (a0 : List
  Bool) : runF (cfgW g_pack) K f_pack pack_tm [.val (.slice .bool)] [.own tB] (a0, ()) = pack_P K a0 := by kernel_rfl
abbrev g_get : List (Nat × Ctr O0) := []
def get_tm : List (List (Nat × SSh O0)) := []
def get_P (K : Nat) (a0 : List Int) (a1 : Int) : Option ((Bool × Unit) × Unit × Unit × Unit) :=
  br (decide (a1 ≥ (0 : Int)))
  (br (decide (a1.fdiv ((2 : Int) ^ min (Int.toNat (3 : Int)) (64 : Nat)) < (↑a0.length : Int)))
    (br (decide ((0 : Int) ≤ a1.fdiv ((2 : Int) ^ min (Int.toNat (3 : Int)) (64 : Nat))))
      (br (decide (a1.fdiv ((2 : Int) ^ min (Int.toNat (3 : Int)) (64 : Nat)) < (↑a0.length : Int)))
        (br
          (decide ((0 : Int) ≤ IntKind.u64.wrap (IntKind.i64.wrap (↑(BitVec.ofInt (64 : Nat) a1 &&& BitVec.ofInt (64 : Nat) (7 : Int)).toNat : Int))))
          (some
            ((IntKind.u8.wrap
                    (↑(BitVec.ofInt (8 : Nat)
                              (Int.fdiv (a0.getD (a1.fdiv ((2 : Int) ^ min (Int.toNat (3 : Int)) (64 : Nat))).toNat (0 : Int))
                                ((2 : Int) ^
                                  min
                                    (IntKind.u64.wrap
                                        (IntKind.i64.wrap (↑(BitVec.ofInt (64 : Nat) a1 &&& BitVec.ofInt (64 : Nat) (7 : Int)).toNat : Int))).toNat
                                    (8 : Nat))) &&&
                            BitVec.ofInt (8 : Nat) (1 : Int)).toNat :
                      Int) ==
                  (1 : Int),
                ()),
              (), (), ()))
          none)
        none)
      none)
    (some ((false, ()), (), (), ())))
  (some ((false, ()), (), (), ()))
theorem get_rn (K : Nat) (a0 : List
  Int) (a1 : Int) : runF (cfgW g_get) K f_get get_tm [.val (.slice tB), .val tI] [.val .bool] (a0, a1, ()) = get_P K a0 a1 := by kernel_rfl
abbrev g_set : List (Nat × Ctr O0) := [(n_cloneBytes, c_cloneBytes)]
def set_tm : List (List (Nat × SSh O0)) := []
def set_P (K : Nat) (a0 : List Int) (a1 : Int) (a2 : Bool) : Option ((List Int × Unit) × Unit × Unit × Unit × Unit) :=
  bd (grd (decide (a0.length < (1000000 : Nat))) ((a0, ()), (), ())) fun (x1 : (List Int × Unit) × Unit × Unit) =>
  br (decide (a1 < (0 : Int))) (some ((x1.1.1, ()), (), (), (), ()))
    (br (decide (a1.fdiv ((2 : Int) ^ min (Int.toNat (3 : Int)) (64 : Nat)) ≥ (↑a0.length : Int)))
      (some ((x1.1.1, ()), (), (), (), ()))
      (br (decide ((0 : Int) ≤ IntKind.u64.wrap (IntKind.i64.wrap (↑(BitVec.ofInt (64 : Nat) a1 &&& BitVec.ofInt (64 : Nat) (7 : Int)).toNat : Int))))
        (br (decide ((0 : Int) ≤ a1.fdiv ((2 : Int) ^ min (Int.toNat (3 : Int)) (64 : Nat))))
          (br (decide (a1.fdiv ((2 : Int) ^ min (Int.toNat (3 : Int)) (64 : Nat)) < (↑x1.1.1.length : Int)))
            (br (decide ((0 : Int) ≤ a1.fdiv ((2 : Int) ^ min (Int.toNat (3 : Int)) (64 : Nat))))
              (br (decide (a1.fdiv ((2 : Int) ^ min (Int.toNat (3 : Int)) (64 : Nat)) < (↑x1.1.1.length : Int)))
                (br a2
                  (br (decide ((0 : Int) ≤ a1.fdiv ((2 : Int) ^ min (Int.toNat (3 : Int)) (64 : Nat))))
                    (br
                      (decide
                        (a1.fdiv ((2 : Int) ^ min (Int.toNat (3 : Int)) (64 : Nat)) <
                          (↑(x1.1.1.set (a1.fdiv ((2 : Int) ^ min (Int.toNat (3 : Int)) (64 : Nat))).toNat
                                  (IntKind.u8.wrap
                                    (↑(BitVec.ofInt (8 : Nat)
                                              (x1.1.1.getD (a1.fdiv ((2 : Int) ^ min (Int.toNat (3 : Int)) (64 : Nat))).toNat (0 : Int)) &&&
                                            ~~~BitVec.ofInt (8 : Nat)
                                                (IntKind.u8.wrap
                                                  ((1 : Int) *
                                                    (2 : Int) ^
                                                      min
                                                        (IntKind.u64.wrap
                                                            (IntKind.i64.wrap
                                                              (↑(BitVec.ofInt (64 : Nat) a1 &&& BitVec.ofInt (64 : Nat) (7 : Int)).toNat :
                                                                Int))).toNat
                                                        (8 : Nat)))).toNat :
                                      Int))).length :
                            Int)))
                      (br (decide ((0 : Int) ≤ a1.fdiv ((2 : Int) ^ min (Int.toNat (3 : Int)) (64 : Nat))))
                        (br
                          (decide
                            (a1.fdiv ((2 : Int) ^ min (Int.toNat (3 : Int)) (64 : Nat)) <
                              (↑(x1.1.1.set (a1.fdiv ((2 : Int) ^ min (Int.toNat (3 : Int)) (64 : Nat))).toNat
                                      (IntKind.u8.wrap
                                        (↑(BitVec.ofInt (8 : Nat)
                                                  (x1.1.1.getD (a1.fdiv ((2 : Int) ^ min (Int.toNat (3 : Int)) (64 : Nat))).toNat (0 : Int)) &&&
                                                ~~~BitVec.ofInt (8 : Nat)
                                                    (IntKind.u8.wrap
                                                      ((1 : Int) *
                                                        (2 : Int) ^
                                                          min
                                                            (IntKind.u64.wrap
                                                                (IntKind.i64.wrap
                                                                  (↑(BitVec.ofInt (64 : Nat) a1 &&& BitVec.ofInt (64 : Nat) (7 : Int)).toNat :
                                                                    Int))).toNat
                                                            (8 : Nat)))).toNat :
                                          Int))).length :
                                Int)))
                          (some
                            (((x1.1.1.set (a1.fdiv ((2 : Int) ^ min (Int.toNat (3 : Int)) (64 : Nat))).toNat
                                      (IntKind.u8.wrap
                                        (↑(BitVec.ofInt (8 : Nat)
                                                  (x1.1.1.getD (a1.fdiv ((2 : Int) ^ min (Int.toNat (3 : Int)) (64 : Nat))).toNat (0 : Int)) &&&
                                                ~~~BitVec.ofInt (8 : Nat)
                                                    (IntKind.u8.wrap
                                                      ((1 : Int) *
                                                        (2 : Int) ^
                                                          min
                                                            (IntKind.u64.wrap
                                                                (IntKind.i64.wrap
                                                                  (↑(BitVec.ofInt (64 : Nat) a1 &&& BitVec.ofInt (64 : Nat) (7 : Int)).toNat :
                                                                    Int))).toNat
                                                            (8 : Nat)))).toNat :
                                          Int))).set
                                  (a1.fdiv ((2 : Int) ^ min (Int.toNat (3 : Int)) (64 : Nat))).toNat
                                  (IntKind.u8.wrap
                                    (↑(BitVec.ofInt (8 : Nat)
                                              ((x1.1.1.set (a1.fdiv ((2 : Int) ^ min (Int.toNat (3 : Int)) (64 : Nat))).toNat
                                                    (IntKind.u8.wrap
                                                      (↑(BitVec.ofInt (8 : Nat)
                                                                (x1.1.1.getD (a1.fdiv ((2 : Int) ^ min (Int.toNat (3 : Int)) (64 : Nat))).toNat
                                                                  (0 : Int)) &&&
                                                              ~~~BitVec.ofInt (8 : Nat)
                                                                  (IntKind.u8.wrap
                                                                    ((1 : Int) *
                                                                      (2 : Int) ^
                                                                        min
                                                                          (IntKind.u64.wrap
                                                                              (IntKind.i64.wrap
                                                                                (↑(BitVec.ofInt (64 : Nat) a1 &&&
                                                                                        BitVec.ofInt (64 : Nat) (7 : Int)).toNat :
                                                                                  Int))).toNat
                                                                          (8 : Nat)))).toNat :
                                                        Int))).getD
                                                (a1.fdiv ((2 : Int) ^ min (Int.toNat (3 : Int)) (64 : Nat))).toNat (0 : Int)) |||
                                            BitVec.ofInt (8 : Nat)
                                              (IntKind.u8.wrap
                                                ((1 : Int) *
                                                  (2 : Int) ^
                                                    min
                                                      (IntKind.u64.wrap
                                                          (IntKind.i64.wrap
                                                            (↑(BitVec.ofInt (64 : Nat) a1 &&& BitVec.ofInt (64 : Nat) (7 : Int)).toNat : Int))).toNat
                                                      (8 : Nat)))).toNat :
                                      Int)),
                                ()),
                              (), (), (), ()))
                          none)
                        none)
                      none)
                    none)
                  (some
                    ((x1.1.1.set (a1.fdiv ((2 : Int) ^ min (Int.toNat (3 : Int)) (64 : Nat))).toNat
                          (IntKind.u8.wrap
                            (↑(BitVec.ofInt (8 : Nat) (x1.1.1.getD (a1.fdiv ((2 : Int) ^ min (Int.toNat (3 : Int)) (64 : Nat))).toNat (0 : Int)) &&&
                                    ~~~BitVec.ofInt (8 : Nat)
                                        (IntKind.u8.wrap
                                          ((1 : Int) *
                                            (2 : Int) ^
                                              min
                                                (IntKind.u64.wrap
                                                    (IntKind.i64.wrap
                                                      (↑(BitVec.ofInt (64 : Nat) a1 &&& BitVec.ofInt (64 : Nat) (7 : Int)).toNat : Int))).toNat
                                                (8 : Nat)))).toNat :
                              Int)),
                        ()),
                      (), (), (), ())))
                none)
              none)
            none)
          none)
        none))
theorem set_rn (K : Nat) (a0 : List
  Int) (a1 : Int) (a2 : Bool) : runF (cfgW g_set) K f_set set_tm [.val (.slice tB), .val tI, .val .bool] [.own tB] (a0, a1, a2, ()) = set_P K a0 a1 a2 := by kernel_rfl
abbrev g_unpack : List (Nat × Ctr O0) := [(n_bytes, c_bytes), (n_get, c_get)]
def unpack_tm : List (List (Nat × SSh O0)) := [[((0 : Nat), SSh.one (CSh.ro (Ty.int IntKind.u8))), ((6 : Nat), SSh.one (CSh.own Ty.bool)), ((20 : Nat), SSh.one (CSh.int IntKind.i64)),
    ((21 : Nat), SSh.one (CSh.int IntKind.i64))]]
def unpack_L1 (rec2 : List Int × List Bool × Int × Int × Unit →
  Option
    ((List Bool × Bool × Unit) ×
      Unit ×
        Unit ×
          Unit)) : List Int × List Bool × Int × Int × Unit →
  Option ((List Bool × Bool × Unit) × Unit × Unit × Unit) := fun (y4, y5, y6, y7, ()) =>
  br (decide (y7 < y6))
  (bd (grd (allB y4 && isN y7) ((bitS y4 y7, ()), (), (), ())) fun (x8 : (Bool × Unit) × Unit × Unit × Unit) =>
    br (decide ((0 : Int) ≤ y7))
      (br (decide (y7 < (↑y5.length : Int))) (rec2 (y4, y5.set y7.toNat x8.1.1, y6, IntKind.i64.wrap (y7 + (1 : Int)), ())) none) none)
  (some ((y5, true, ()), (), (), ()))
def unpack_P (K : Nat) (a0 : List Int) (a1 : Int) : Option ((List Bool × Bool × Unit) × Unit × Unit × Unit) :=
  br (decide (a1 < (0 : Int))) (some (([], false, ()), (), (), ()))
  (bd (grd (isN a1) ((bytesS a1, ()), (), ())) fun (x1 : (Int × Unit) × Unit × Unit) =>
    br ((↑a0.length : Int) != x1.1.1) (some (([], false, ()), (), (), ()))
      (br (decide ((0 : Int) ≤ a1))
        (br (decide (a1 ≤ a1))
          (br (decide (a1.toNat * (1 : Nat) ≤ LIM))
            (br (decide (a1.toNat ≤ LIM))
              (loopN unpack_L1 K (a0, List.replicate a1.toNat false, (↑(List.replicate a1.toNat false).length : Int), (0 : Int), ())) none)
            none)
          none)
        none))
theorem unpack_rn (K : Nat) (a0 : List
  Int) (a1 : Int) : runF (cfgW g_unpack) K f_unpack unpack_tm [.val (.slice tB), .val tI] [.own .bool, .val .bool] (a0, a1, ()) = unpack_P K a0 a1 := by kernel_rfl
abbrev g_power : List (Nat × Ctr O0) := []
def power_tm : List (List (Nat × SSh O0)) := [[((0 : Nat), SSh.one (CSh.int IntKind.i64)), ((3 : Nat), SSh.one (CSh.int IntKind.u8)), ((4 : Nat), SSh.one (CSh.int IntKind.i64))]]
def power_L1 (rec1 : Int × Int × Int × Unit →
  Option ((Int × Unit) × Unit × Unit)) : Int × Int × Int × Unit → Option ((Int × Unit) × Unit × Unit) := fun (y3, y4, y5, ()) =>
  br (decide (y5 < y3)) (rec1 (y3, IntKind.u8.wrap (y4 * (2 : Int)), IntKind.i64.wrap (y5 + (1 : Int)), ()))
  (some ((y4, ()), (), ()))
def power_P (K : Nat) (a0 : Int) : Option ((Int × Unit) × Unit × Unit) :=
  loopN power_L1 K (a0, (1 : Int), (0 : Int), ())
theorem power_rn (K : Nat) (a0 : Int) : runF (cfgW g_power) K f_power power_tm [.val tI] [.val tB] (a0, ()) = power_P K a0 := by kernel_rfl
abbrev g_rbytes : List (Nat × Ctr O0) := []
def rbytes_tm : List (List (Nat × SSh O0)) := []
def rbytes_P (K : Nat) (a0 : Int) : Option ((Int × Unit) × Unit × Unit) :=
  br (decide (a0 < (1 : Int))) (some (((0 : Int), ()), (), ()))
  (br (!false)
    (some
      ((IntKind.i64.wrap (IntKind.i64.wrap ((IntKind.i64.wrap (a0 - (1 : Int))).tdiv (8 : Int)) + (1 : Int)), ()), (), ()))
    none)
theorem rbytes_rn (K : Nat) (a0 : Int) : runF (cfgW g_rbytes) K f_rbytes rbytes_tm [.val tI] [.val tI] (a0, ()) = rbytes_P K a0 := by kernel_rfl
abbrev g_rpack : List (Nat × Ctr O0) := [(n_rbytes, c_rbytes), (n_power, c_power)]
def rpack_tm : List (List (Nat × SSh O0)) := [[((0 : Nat), SSh.one (CSh.ro Ty.bool)), ((3 : Nat), SSh.one (CSh.own (Ty.int IntKind.u8))), ((4 : Nat), SSh.one (CSh.int IntKind.i64))]]
def rpack_L1 (rec2 : List Bool × List Int × Int × Unit →
  Option
    ((List Int × Unit) ×
      Unit × Unit)) : List Bool × List Int × Int × Unit → Option ((List Int × Unit) × Unit × Unit) := fun (y4, y5, y6, ()) =>
  br (decide (y6 < (↑y4.length : Int)))
  (br (decide ((0 : Int) ≤ y6))
    (br (decide (y6 < (↑y4.length : Int)))
      (br (y4.getD y6.toNat false)
        (br (!false)
          (br (decide ((0 : Int) ≤ IntKind.i64.wrap (y6.tdiv (8 : Int))))
            (br (decide (IntKind.i64.wrap (y6.tdiv (8 : Int)) < (↑y5.length : Int)))
              (br (!false)
                (bd
                  (grd (decide ((0 : Int) ≤ y6.tmod (8 : Int)) && decide (y6.tmod (8 : Int) < (8 : Int)))
                    (((2 : Int) ^ (y6.tmod (8 : Int)).toNat, ()), (), ()))
                  fun (x7 : (Int × Unit) × Unit × Unit) =>
                  br (decide ((0 : Int) ≤ IntKind.i64.wrap (y6.tdiv (8 : Int))))
                    (br (decide (IntKind.i64.wrap (y6.tdiv (8 : Int)) < (↑y5.length : Int)))
                      (rec2
                        (y4,
                          y5.set (IntKind.i64.wrap (y6.tdiv (8 : Int))).toNat
                            (IntKind.u8.wrap (y5.getD (IntKind.i64.wrap (y6.tdiv (8 : Int))).toNat (0 : Int) + x7.1.1)),
                          IntKind.i64.wrap (y6 + (1 : Int)), ()))
                      none)
                    none)
                none)
              none)
            none)
          none)
        (rec2 (y4, y5, IntKind.i64.wrap (y6 + (1 : Int)), ())))
      none)
    none)
  (some ((y5, ()), (), ()))
def rpack_P (K : Nat) (a0 : List Bool) : Option ((List Int × Unit) × Unit × Unit) :=
  bd (grd (isN (↑a0.length : Int)) ((bytesS (↑a0.length : Int), ()), (), ())) fun (x1 : (Int × Unit) × Unit × Unit) =>
  br (decide ((0 : Int) ≤ x1.1.1))
    (br (decide (x1.1.1 ≤ x1.1.1))
      (br (decide (x1.1.1.toNat * (1 : Nat) ≤ LIM))
        (br (decide (x1.1.1.toNat ≤ LIM)) (loopN rpack_L1 K (a0, List.replicate x1.1.1.toNat (0 : Int), (0 : Int), ())) none) none)
      none)
    none
theorem rpack_rn (K : Nat) (a0 : List
  Bool) : runF (cfgW g_rpack) K f_rpack rpack_tm [.val (.slice .bool)] [.own tB] (a0, ()) = rpack_P K a0 := by kernel_rfl
abbrev g_rbit : List (Nat × Ctr O0) := [(n_power, c_power)]
def rbit_tm : List (List (Nat × SSh O0)) := []
def rbit_P (K : Nat) (a0 : List Int) (a1 : Int) : Option ((Bool × Unit) × Unit × Unit × Unit) :=
  br (decide (a1 < (0 : Int))) (some ((false, ()), (), (), ()))
  (br (!false)
    (br (decide (IntKind.i64.wrap (a1.tdiv (8 : Int)) ≥ (↑a0.length : Int))) (some ((false, ()), (), (), ()))
      (br (!false)
        (br (decide ((0 : Int) ≤ IntKind.i64.wrap (a1.tdiv (8 : Int))))
          (br (decide (IntKind.i64.wrap (a1.tdiv (8 : Int)) < (↑a0.length : Int)))
            (br (!false)
              (bd
                (grd (decide ((0 : Int) ≤ a1.tmod (8 : Int)) && decide (a1.tmod (8 : Int) < (8 : Int)))
                  (((2 : Int) ^ (a1.tmod (8 : Int)).toNat, ()), (), ()))
                fun (x1 : (Int × Unit) × Unit × Unit) =>
                br (!decide (x1.1.1 = (0 : Int)))
                  (br (!false)
                    (some
                      (((IntKind.u8.wrap (Int.tdiv (a0.getD (IntKind.i64.wrap (a1.tdiv (8 : Int))).toNat (0 : Int)) x1.1.1)).tmod (2 : Int) ==
                            (1 : Int),
                          ()),
                        (), (), ()))
                    none)
                  none)
              none)
            none)
          none)
        none))
    none)
theorem rbit_rn (K : Nat) (a0 : List
  Int) (a1 : Int) : runF (cfgW g_rbit) K f_rbit rbit_tm [.val (.slice tB), .val tI] [.val .bool] (a0, a1, ()) = rbit_P K a0 a1 := by kernel_rfl
abbrev g_rset : List (Nat × Ctr O0) := [(n_rbit, c_rbit), (n_power, c_power)]
def rset_tm : List (List (Nat × SSh O0)) := []
def rset_P (K : Nat) (a0 : List Int) (a1 : Int) (a2 : Bool) : Option ((List Int × Unit) × Unit × Unit × Unit × Unit) :=
  br (decide (a0.length * (1 : Nat) ≤ LIM))
  (br (decide (a0.length ≤ LIM))
    (br (decide (a1 < (0 : Int))) (some ((a0, ()), (), (), (), ()))
      (br (!false)
        (br (decide (IntKind.i64.wrap (a1.tdiv (8 : Int)) ≥ (↑a0.length : Int)))
          (some ((a0, ()), (), (), (), ()))
          (bd (grd (allB a0 && isN a1) ((bitS a0 a1, ()), (), (), ()))
            fun (x1 : (Bool × Unit) × Unit × Unit × Unit) =>
            br (x1.1.1 == a2) (some ((a0, ()), (), (), (), ()))
              (br a2
                (br (!false)
                  (br (decide ((0 : Int) ≤ IntKind.i64.wrap (a1.tdiv (8 : Int))))
                    (br (decide (IntKind.i64.wrap (a1.tdiv (8 : Int)) < (↑a0.length : Int)))
                      (br (!false)
                        (bd
                          (grd (decide ((0 : Int) ≤ a1.tmod (8 : Int)) && decide (a1.tmod (8 : Int) < (8 : Int)))
                            (((2 : Int) ^ (a1.tmod (8 : Int)).toNat, ()), (), ()))
                          fun (x2 : (Int × Unit) × Unit × Unit) =>
                          br (decide ((0 : Int) ≤ IntKind.i64.wrap (a1.tdiv (8 : Int))))
                            (br (decide (IntKind.i64.wrap (a1.tdiv (8 : Int)) < (↑a0.length : Int)))
                              (some
                                ((a0.set (IntKind.i64.wrap (a1.tdiv (8 : Int))).toNat
                                      (IntKind.u8.wrap (a0.getD (IntKind.i64.wrap (a1.tdiv (8 : Int))).toNat (0 : Int) + x2.1.1)),
                                    ()),
                                  (), (), (), ()))
                              none)
                            none)
                        none)
                      none)
                    none)
                  none)
                (br (!false)
                  (br (decide ((0 : Int) ≤ IntKind.i64.wrap (a1.tdiv (8 : Int))))
                    (br (decide (IntKind.i64.wrap (a1.tdiv (8 : Int)) < (↑a0.length : Int)))
                      (br (!false)
                        (bd
                          (grd (decide ((0 : Int) ≤ a1.tmod (8 : Int)) && decide (a1.tmod (8 : Int) < (8 : Int)))
                            (((2 : Int) ^ (a1.tmod (8 : Int)).toNat, ()), (), ()))
                          fun (x3 : (Int × Unit) × Unit × Unit) =>
                          br (decide ((0 : Int) ≤ IntKind.i64.wrap (a1.tdiv (8 : Int))))
                            (br (decide (IntKind.i64.wrap (a1.tdiv (8 : Int)) < (↑a0.length : Int)))
                              (some
                                ((a0.set (IntKind.i64.wrap (a1.tdiv (8 : Int))).toNat
                                      (IntKind.u8.wrap (a0.getD (IntKind.i64.wrap (a1.tdiv (8 : Int))).toNat (0 : Int) - x3.1.1)),
                                    ()),
                                  (), (), (), ()))
                              none)
                            none)
                        none)
                      none)
                    none)
                  none))))
        none))
    none)
  none
theorem rset_rn (K : Nat) (a0 : List
  Int) (a1 : Int) (a2 : Bool) : runF (cfgW g_rset) K f_rset rset_tm [.val (.slice tB), .val tI, .val .bool] [.own tB] (a0, a1, a2, ()) = rset_P K a0 a1 a2 := by kernel_rfl
abbrev g_runpack : List (Nat × Ctr O0) := [(n_rbytes, c_rbytes), (n_rbit, c_rbit)]
def runpack_tm : List (List (Nat × SSh O0)) := [[((0 : Nat), SSh.one (CSh.ro (Ty.int IntKind.u8))), ((1 : Nat), SSh.one (CSh.int IntKind.i64)), ((6 : Nat), SSh.one (CSh.own Ty.bool)),
    ((7 : Nat), SSh.one (CSh.int IntKind.i64))]]
def runpack_L1 (rec2 : List Int × Int × List Bool × Int × Unit →
  Option
    ((List Bool × Bool × Unit) ×
      Unit ×
        Unit ×
          Unit)) : List Int × Int × List Bool × Int × Unit →
  Option ((List Bool × Bool × Unit) × Unit × Unit × Unit) := fun (y4, y5, y6, y7, ()) =>
  br (decide (y7 < y5))
  (bd (grd (allB y4 && isN y7) ((bitS y4 y7, ()), (), (), ())) fun (x8 : (Bool × Unit) × Unit × Unit × Unit) =>
    br (decide ((y6.length + [x8.1.1].length) * (1 : Nat) ≤ LIM))
      (br (decide (y6.length + [x8.1.1].length ≤ LIM)) (rec2 (y4, y5, cat y6 [x8.1.1], IntKind.i64.wrap (y7 + (1 : Int)), ())) none) none)
  (some ((y6, true, ()), (), (), ()))
def runpack_P (K : Nat) (a0 : List Int) (a1 : Int) : Option ((List Bool × Bool × Unit) × Unit × Unit × Unit) :=
  br (decide (a1 < (0 : Int))) (some (([], false, ()), (), (), ()))
  (bd (grd (isN a1) ((bytesS a1, ()), (), ())) fun (x1 : (Int × Unit) × Unit × Unit) =>
    br ((↑a0.length : Int) != x1.1.1) (some (([], false, ()), (), (), ()))
      (loopN runpack_L1 K (a0, a1, [], (0 : Int), ())))
theorem runpack_rn (K : Nat) (a0 : List
  Int) (a1 : Int) : runF (cfgW g_runpack) K f_runpack runpack_tm [.val (.slice tB), .val tI] [.own .bool, .val .bool] (a0, a1, ()) = runpack_P K a0 a1 := by kernel_rfl
abbrev g_awake2 : List (Nat × Ctr O0) := [(n_pack, c_pack), (n_unpack, c_unpack), (n_bytes, c_bytes)]
def awake2_tm : List (List (Nat × SSh O0)) := []
def awake2_P (K : Nat) : Option ((Bool × Unit) × Unit) :=
  bd (grd true ((pkS [true, false, true], ()), (), ())) fun (x1 : (List Int × Unit) × Unit × Unit) =>
  bd
    (grd (allB [(255 : Int)] && (isN (2 : Int) && true))
      (((unpackB [(255 : Int)] (2 : Int)).1, (unpackB [(255 : Int)] (2 : Int)).2, ()), (), (), ()))
    fun (x2 : (List Bool × Bool × Unit) × Unit × Unit × Unit) =>
    br ((↑x1.1.1.length : Int) == (1 : Int))
      (br (decide ((0 : Int) < (↑x1.1.1.length : Int)))
        (br (x1.1.1.getD (Int.toNat (0 : Int)) (0 : Int) == (5 : Int))
          (br x2.1.2.1
            (br ((↑x2.1.1.length : Int) == (2 : Int))
              (br (decide ((0 : Int) < (↑x2.1.1.length : Int)))
                (br (x2.1.1.getD (Int.toNat (0 : Int)) false)
                  (br (decide ((1 : Int) < (↑x2.1.1.length : Int)))
                    (br (x2.1.1.getD (Int.toNat (1 : Int)) false)
                      (bd (grd (isN (9 : Int)) ((bytesS (9 : Int), ()), (), ())) fun (x3 : (Int × Unit) × Unit × Unit) =>
                        some ((x3.1.1 == (2 : Int), ()), ()))
                      (some ((false, ()), ())))
                    none)
                  (some ((false, ()), ())))
                none)
              (some ((false, ()), ())))
            (some ((false, ()), ())))
          (some ((false, ()), ())))
        none)
      (some ((false, ()), ()))
theorem awake2_rn (K : Nat) : runF (cfgW g_awake2) K f_awake2 awake2_tm [] [.val .bool] (()) = awake2_P K := by kernel_rfl
abbrev g_lBitsPacks : List (Nat × Ctr O0) := [(n_awake2, c_awake2), (n_lentBits, c_lentBits), (n_pack, c_pack), (n_unpack, c_unpack), (n_rpack, c_rpack), (n_sameBits, c_sameBits), (n_staysBits, c_staysBits)]
def lBitsPacks_tm : List (List (Nat × SSh O0)) := []
def lBitsPacks_P (K : Nat) (a0 : List Bool) : Option ((Bool × Unit) × Unit × Unit) :=
  br (decide ((↑a0.length : Int) > (200 : Int))) (some ((true, ()), (), ()))
  (br (!true) (some ((true, ()), (), ()))
    (bd (grd (decide (a0.length < (1000000 : Nat))) (((lentS true a0, a0.length), ()), (), ()))
      fun (x1 : ((List Bool × Nat) × Unit) × Unit × Unit) =>
      bd
        (grd (decide ((List.take x1.1.1.2 (List.drop (0 : Nat) x1.1.1.1)).length < (1000000 : Nat)))
          ((pkS (List.take x1.1.1.2 (List.drop (0 : Nat) x1.1.1.1)), ()), (), ()))
        fun (x2 : (List Int × Unit) × Unit × Unit) =>
        bd
          (grd (allB x2.1.1 && (isN (↑a0.length : Int) && decide (x2.1.1.length < (1000000 : Nat))))
            (((unpackB x2.1.1 (↑a0.length : Int)).1, (unpackB x2.1.1 (↑a0.length : Int)).2, ()), (), (), ()))
          fun (x3 : (List Bool × Bool × Unit) × Unit × Unit × Unit) =>
          bd (grd (decide (a0.length < (1000000 : Nat))) ((pkS a0, ()), (), ()))
            fun (x4 : (List Int × Unit) × Unit × Unit) =>
            br ((bytesOf x2.1.1).toList == (bytesOf x4.1.1).toList)
              (br x3.1.2.1
                (bd (grd (decide (x3.1.1.length < (1000000 : Nat))) ((sameS x3.1.1 a0, ()), (), (), ()))
                  fun (x5 : (Bool × Unit) × Unit × Unit × Unit) =>
                  br x5.1.1
                    (bd
                      (grd (staysS true x1.1.1.1 x1.1.1.2 a0 && decide (a0.length < (1000000 : Nat)))
                        ((true, ()), x1.1.1.1, (), ()))
                      fun (x6 : (Bool × Unit) × List Bool × Unit × Unit) => some ((x6.1.1, ()), (), ()))
                    (some ((false, ()), (), ())))
                (some ((false, ()), (), ())))
              (some ((false, ()), (), ()))))
theorem lBitsPacks_rn (K : Nat) (a0 : List
  Bool) : runF (cfgW g_lBitsPacks) K f_lBitsPacks lBitsPacks_tm [.val (.slice .bool)] [.val .bool] (a0, ()) = lBitsPacks_P K a0 := by kernel_rfl
abbrev g_lBitsUnpacks : List (Nat × Ctr O0) := [(n_awake2, c_awake2), (n_lentBytes, c_lentBytes), (n_unpack, c_unpack), (n_runpack, c_runpack), (n_sameBits, c_sameBits), (n_bytes, c_bytes), (n_rbytes, c_rbytes), (n_staysBytes, c_staysBytes)]
def lBitsUnpacks_tm : List (List (Nat × SSh O0)) := []
def lBitsUnpacks_P (K : Nat) (a0 : List Int) (a1 : Int) : Option ((Bool × Unit) × Unit × Unit × Unit) :=
  br (decide ((↑a0.length : Int) > (300 : Int))) (some ((true, ()), (), (), ()))
  (br (!true) (some ((true, ()), (), (), ()))
    (bd (grd (decide (a0.length < (1000000 : Nat))) (((lentS (165 : Int) a0, a0.length), ()), (), ()))
      fun (x1 : ((List Int × Nat) × Unit) × Unit × Unit) =>
      bd
        (grd
          (allB (List.take x1.1.1.2 (List.drop (0 : Nat) x1.1.1.1)) &&
            (isN a1 && decide ((List.take x1.1.1.2 (List.drop (0 : Nat) x1.1.1.1)).length < (1000000 : Nat))))
          (((unpackB (List.take x1.1.1.2 (List.drop (0 : Nat) x1.1.1.1)) a1).1, (unpackB (List.take x1.1.1.2 (List.drop (0 : Nat) x1.1.1.1)) a1).2,
              ()),
            (), (), ()))
        fun (x2 : (List Bool × Bool × Unit) × Unit × Unit × Unit) =>
        bd
          (grd (allB a0 && (isN a1 && decide (a0.length < (1000000 : Nat))))
            (((unpackB a0 a1).1, (unpackB a0 a1).2, ()), (), (), ()))
          fun (x3 : (List Bool × Bool × Unit) × Unit × Unit × Unit) =>
          br (x2.1.2.1 == x3.1.2.1)
            (bd (grd (decide (x2.1.1.length < (1000000 : Nat))) ((sameS x2.1.1 x3.1.1, ()), (), (), ()))
              fun (x4 : (Bool × Unit) × Unit × Unit × Unit) =>
              br x4.1.1
                (bd (grd (isN a1) ((bytesS a1, ()), (), ())) fun (x5 : (Int × Unit) × Unit × Unit) =>
                  bd (grd (isN a1) ((bytesS a1, ()), (), ())) fun (x6 : (Int × Unit) × Unit × Unit) =>
                    br (x5.1.1 == x6.1.1)
                      (bd
                        (grd (staysS (165 : Int) x1.1.1.1 x1.1.1.2 a0 && decide (a0.length < (1000000 : Nat)))
                          ((true, ()), x1.1.1.1, (), ()))
                        fun (x7 : (Bool × Unit) × List Int × Unit × Unit) => some ((x7.1.1, ()), (), (), ()))
                      (some ((false, ()), (), (), ())))
                (some ((false, ()), (), (), ())))
            (some ((false, ()), (), (), ()))))
theorem lBitsUnpacks_rn (K : Nat) (a0 : List
  Int) (a1 : Int) : runF (cfgW g_lBitsUnpacks) K f_lBitsUnpacks lBitsUnpacks_tm [.val (.slice tB), .val tI] [.val .bool] (a0, a1, ()) = lBitsUnpacks_P K a0 a1 := by kernel_rfl
abbrev g_lBitsParts : List (Nat × Ctr O0) := [(n_awake2, c_awake2), (n_pack, c_pack)]
def lBitsParts_tm : List (List (Nat × SSh O0)) := []
def lBitsParts_P (K : Nat) (a0 : List Bool) (a1 : List Bool) : Option ((Bool × Unit) × Unit × Unit × Unit) :=
  br (decide ((↑a0.length : Int) > (100 : Int))) (some ((true, ()), (), (), ()))
  (br (decide ((↑a1.length : Int) > (100 : Int))) (some ((true, ()), (), (), ()))
    (br (!true) (some ((true, ()), (), (), ()))
      (br (!false)
        (br (decide ((0 : Int) ≤ IntKind.i64.wrap (IntKind.i64.wrap ((↑a0.length : Int).tdiv (8 : Int)) * (8 : Int))))
          (br (decide (IntKind.i64.wrap (IntKind.i64.wrap ((↑a0.length : Int).tdiv (8 : Int)) * (8 : Int)) ≤ (↑a0.length : Int)))
            (br
              (decide
                ((List.take (IntKind.i64.wrap (IntKind.i64.wrap ((↑a0.length : Int).tdiv (8 : Int)) * (8 : Int))).toNat a0).length * (1 : Nat) ≤ LIM))
              (br (decide ((List.take (IntKind.i64.wrap (IntKind.i64.wrap ((↑a0.length : Int).tdiv (8 : Int)) * (8 : Int))).toNat a0).length ≤ LIM))
                (br
                  (decide
                    (((List.take (IntKind.i64.wrap (IntKind.i64.wrap ((↑a0.length : Int).tdiv (8 : Int)) * (8 : Int))).toNat a0).length + a1.length) *
                        (1 : Nat) ≤
                      LIM))
                  (br
                    (decide
                      ((List.take (IntKind.i64.wrap (IntKind.i64.wrap ((↑a0.length : Int).tdiv (8 : Int)) * (8 : Int))).toNat a0).length + a1.length ≤
                        LIM))
                    (bd
                      (grd
                        (decide
                          ((cat (List.take (IntKind.i64.wrap (IntKind.i64.wrap ((↑a0.length : Int).tdiv (8 : Int)) * (8 : Int))).toNat a0)
                                a1).length <
                            (1000000 : Nat)))
                        ((pkS (cat (List.take (IntKind.i64.wrap (IntKind.i64.wrap ((↑a0.length : Int).tdiv (8 : Int)) * (8 : Int))).toNat a0) a1),
                            ()),
                          (), ()))
                      fun (x1 : (List Int × Unit) × Unit × Unit) =>
                      bd
                        (grd
                          (decide
                            ((List.take (IntKind.i64.wrap (IntKind.i64.wrap ((↑a0.length : Int).tdiv (8 : Int)) * (8 : Int))).toNat a0).length <
                              (1000000 : Nat)))
                          ((pkS (List.take (IntKind.i64.wrap (IntKind.i64.wrap ((↑a0.length : Int).tdiv (8 : Int)) * (8 : Int))).toNat a0),
                              ()),
                            (), ()))
                        fun (x2 : (List Int × Unit) × Unit × Unit) =>
                        bd (grd (decide (a1.length < (1000000 : Nat))) ((pkS a1, ()), (), ()))
                          fun (x3 : (List Int × Unit) × Unit × Unit) =>
                          br (decide ((↑((bytesOf x2.1.1).size + (bytesOf x3.1.1).size) : Int) ≤ (9223372036854775807 : Int)))
                            (some
                              (((bytesOf x1.1.1).toList == (bytesOf x2.1.1 ++ bytesOf x3.1.1).toList, ()), (), (),
                                ()))
                            none)
                    none)
                  none)
                none)
              none)
            none)
          none)
        none)))
theorem lBitsParts_rn (K : Nat) (a0 : List
  Bool) (a1 : List
  Bool) : runF (cfgW g_lBitsParts) K f_lBitsParts lBitsParts_tm [.val (.slice .bool), .val (.slice .bool)] [.val .bool] (a0, a1, ()) = lBitsParts_P K a0 a1 := by kernel_rfl
abbrev g_lBitsSets : List (Nat × Ctr O0) := [(n_awake2, c_awake2), (n_within, c_within), (n_lentBytes, c_lentBytes), (n_set, c_set), (n_rset, c_rset), (n_staysBytes, c_staysBytes), (n_get, c_get), (n_rbit, c_rbit)]
def lBitsSets_tm : List (List (Nat × SSh O0)) := []
def lBitsSets_P (K : Nat) (a0 : List
  Int) (a1 : Int) (a2 : Bool) (a3 : Bool) (a4 : Int) : Option ((Bool × Unit) × Unit × Unit × Unit × Unit × Unit × Unit) :=
  br (decide ((↑a0.length : Int) > (100 : Int))) (some ((true, ()), (), (), (), (), (), ()))
  (br (!true) (some ((true, ()), (), (), (), (), (), ()))
    (br a2
      (bd
        (grd
          (decide ((0 : Int) < IntKind.i64.wrap (IntKind.i64.wrap ((8 : Int) * (↑a0.length : Int)) + (2 : Int))) &&
            decide (IntKind.i64.wrap (IntKind.i64.wrap ((8 : Int) * (↑a0.length : Int)) + (2 : Int)) < (4611686018427387904 : Int)))
          ((a1 % IntKind.i64.wrap (IntKind.i64.wrap ((8 : Int) * (↑a0.length : Int)) + (2 : Int)), ()), (), (), ()))
        fun (x1 : (Int × Unit) × Unit × Unit × Unit) =>
        bd (grd (decide (a0.length < (1000000 : Nat))) (((lentS (165 : Int) a0, a0.length), ()), (), ()))
          fun (x2 : ((List Int × Nat) × Unit) × Unit × Unit) =>
          bd
            (grd
              (allB (List.take x2.1.1.2 (List.drop (0 : Nat) x2.1.1.1)) &&
                (isN x1.1.1 && decide ((List.take x2.1.1.2 (List.drop (0 : Nat) x2.1.1.1)).length < (1000000 : Nat))))
              ((setS (List.take x2.1.1.2 (List.drop (0 : Nat) x2.1.1.1)) x1.1.1 a3, ()), (), (), (), ()))
            fun (x3 : (List Int × Unit) × Unit × Unit × Unit × Unit) =>
            bd
              (grd (allB a0 && (isN x1.1.1 && decide (a0.length < (1000000 : Nat))))
                ((setS a0 x1.1.1 a3, ()), (), (), (), ()))
              fun (x4 : (List Int × Unit) × Unit × Unit × Unit × Unit) =>
              br (!(bytesOf x3.1.1).toList == (bytesOf x4.1.1).toList)
                (some ((false, ()), (), (), (), (), (), ()))
                (bd
                  (grd (staysS (165 : Int) x2.1.1.1 x2.1.1.2 a0 && decide (a0.length < (1000000 : Nat)))
                    ((true, ()), x2.1.1.1, (), ()))
                  fun (x5 : (Bool × Unit) × List Int × Unit × Unit) =>
                  br (!x5.1.1) (some ((false, ()), (), (), (), (), (), ()))
                    (bd (grd (allB a0 && isN x1.1.1) ((bitS a0 x1.1.1, ()), (), (), ()))
                      fun (x6 : (Bool × Unit) × Unit × Unit × Unit) =>
                      bd (grd (allB a0 && isN x1.1.1) ((bitS a0 x1.1.1, ()), (), (), ()))
                        fun (x7 : (Bool × Unit) × Unit × Unit × Unit) =>
                        br (!x6.1.1 == x7.1.1) (some ((false, ()), (), (), (), (), (), ()))
                          (bd
                            (grd
                              (decide ((0 : Int) < IntKind.i64.wrap (IntKind.i64.wrap ((8 : Int) * (↑a0.length : Int)) + (2 : Int))) &&
                                decide
                                  (IntKind.i64.wrap (IntKind.i64.wrap ((8 : Int) * (↑a0.length : Int)) + (2 : Int)) < (4611686018427387904 : Int)))
                              ((a4 % IntKind.i64.wrap (IntKind.i64.wrap ((8 : Int) * (↑a0.length : Int)) + (2 : Int)), ()), (),
                                (), ()))
                            fun (x8 : (Int × Unit) × Unit × Unit × Unit) =>
                            br (x8.1.1 == x1.1.1)
                              (bd (grd (allB x3.1.1 && isN x8.1.1) ((bitS x3.1.1 x8.1.1, ()), (), (), ()))
                                fun (x9 : (Bool × Unit) × Unit × Unit × Unit) =>
                                br a3
                                  (some
                                    ((x9.1.1 == decide (x1.1.1 < IntKind.i64.wrap ((8 : Int) * (↑a0.length : Int))), ()), (),
                                      (), (), (), (), ()))
                                  (some ((x9.1.1 == false, ()), (), (), (), (), (), ())))
                              (bd (grd (allB x3.1.1 && isN x8.1.1) ((bitS x3.1.1 x8.1.1, ()), (), (), ()))
                                fun (x10 : (Bool × Unit) × Unit × Unit × Unit) =>
                                bd (grd (allB a0 && isN x8.1.1) ((bitS a0 x8.1.1, ()), (), (), ()))
                                  fun (x11 : (Bool × Unit) × Unit × Unit × Unit) =>
                                  some ((x10.1.1 == x11.1.1, ()), (), (), (), (), (), ()))))))
      (bd (grd (decide (a0.length < (1000000 : Nat))) (((lentS (165 : Int) a0, a0.length), ()), (), ()))
        fun (x12 : ((List Int × Nat) × Unit) × Unit × Unit) =>
        bd
          (grd
            (allB (List.take x12.1.1.2 (List.drop (0 : Nat) x12.1.1.1)) &&
              (isN a1 && decide ((List.take x12.1.1.2 (List.drop (0 : Nat) x12.1.1.1)).length < (1000000 : Nat))))
            ((setS (List.take x12.1.1.2 (List.drop (0 : Nat) x12.1.1.1)) a1 a3, ()), (), (), (), ()))
          fun (x13 : (List Int × Unit) × Unit × Unit × Unit × Unit) =>
          bd
            (grd (allB a0 && (isN a1 && decide (a0.length < (1000000 : Nat))))
              ((setS a0 a1 a3, ()), (), (), (), ()))
            fun (x14 : (List Int × Unit) × Unit × Unit × Unit × Unit) =>
            br (!(bytesOf x13.1.1).toList == (bytesOf x14.1.1).toList)
              (some ((false, ()), (), (), (), (), (), ()))
              (bd
                (grd (staysS (165 : Int) x12.1.1.1 x12.1.1.2 a0 && decide (a0.length < (1000000 : Nat)))
                  ((true, ()), x12.1.1.1, (), ()))
                fun (x15 : (Bool × Unit) × List Int × Unit × Unit) =>
                br (!x15.1.1) (some ((false, ()), (), (), (), (), (), ()))
                  (bd (grd (allB a0 && isN a1) ((bitS a0 a1, ()), (), (), ()))
                    fun (x16 : (Bool × Unit) × Unit × Unit × Unit) =>
                    bd (grd (allB a0 && isN a1) ((bitS a0 a1, ()), (), (), ()))
                      fun (x17 : (Bool × Unit) × Unit × Unit × Unit) =>
                      br (!x16.1.1 == x17.1.1) (some ((false, ()), (), (), (), (), (), ()))
                        (bd
                          (grd
                            (decide ((0 : Int) < IntKind.i64.wrap (IntKind.i64.wrap ((8 : Int) * (↑a0.length : Int)) + (2 : Int))) &&
                              decide (IntKind.i64.wrap (IntKind.i64.wrap ((8 : Int) * (↑a0.length : Int)) + (2 : Int)) < (4611686018427387904 : Int)))
                            ((a4 % IntKind.i64.wrap (IntKind.i64.wrap ((8 : Int) * (↑a0.length : Int)) + (2 : Int)), ()), (),
                              (), ()))
                          fun (x18 : (Int × Unit) × Unit × Unit × Unit) =>
                          br (x18.1.1 == a1)
                            (bd (grd (allB x13.1.1 && isN x18.1.1) ((bitS x13.1.1 x18.1.1, ()), (), (), ()))
                              fun (x19 : (Bool × Unit) × Unit × Unit × Unit) =>
                              br a3
                                (some
                                  ((x19.1.1 == decide (a1 < IntKind.i64.wrap ((8 : Int) * (↑a0.length : Int))), ()), (), (),
                                    (), (), (), ()))
                                (some ((x19.1.1 == false, ()), (), (), (), (), (), ())))
                            (bd (grd (allB x13.1.1 && isN x18.1.1) ((bitS x13.1.1 x18.1.1, ()), (), (), ()))
                              fun (x20 : (Bool × Unit) × Unit × Unit × Unit) =>
                              bd (grd (allB a0 && isN x18.1.1) ((bitS a0 x18.1.1, ()), (), (), ()))
                                fun (x21 : (Bool × Unit) × Unit × Unit × Unit) =>
                                some ((x20.1.1 == x21.1.1, ()), (), (), (), (), (), ()))))))))
theorem lBitsSets_rn (K : Nat) (a0 : List
  Int) (a1 : Int) (a2 : Bool) (a3 : Bool) (a4 : Int) : runF (cfgW g_lBitsSets) K f_lBitsSets lBitsSets_tm [.val (.slice tB), .val tI, .val .bool, .val .bool, .val tI] [.val .bool] (a0, a1, a2, a3, a4, ()) = lBitsSets_P K a0 a1 a2 a3 a4 := by kernel_rfl
abbrev g_lBitsSpare : List (Nat × Ctr O0) := [(n_awake2, c_awake2), (n_pack, c_pack), (n_bytes, c_bytes), (n_get, c_get), (n_set, c_set), (n_unpack, c_unpack), (n_sameBits, c_sameBits)]
def lBitsSpare_tm : List (List (Nat × SSh O0)) := [[((0 : Nat), SSh.one (CSh.ro Ty.bool)), ((1 : Nat), SSh.one (CSh.int IntKind.u8)), ((5 : Nat), SSh.one (CSh.own (Ty.int IntKind.u8))),
    ((6 : Nat), SSh.one (CSh.int IntKind.i64))]]
def lBitsSpare_L1 (rec3 : List Bool × Int × List Int × Int × Unit →
  Option
    ((Bool × Unit) ×
      Unit ×
        Unit × Unit)) : List Bool × Int × List Int × Int × Unit → Option ((Bool × Unit) × Unit × Unit × Unit) := fun (y5, y6, y7, y8, ()) =>
  br (decide (y8 < IntKind.i64.wrap ((8 : Int) * (↑y7.length : Int))))
  (bd (grd (allB y7 && isN y8) ((bitS y7 y8, ()), (), (), ())) fun (x9 : (Bool × Unit) × Unit × Unit × Unit) =>
    br x9.1.1 (some ((false, ()), (), (), ()))
      (br (!false)
        (br (decide ((0 : Int) ≤ IntKind.u64.wrap (y8.tmod (8 : Int))))
          (br
            (IntKind.u8.wrap
                (↑(BitVec.ofInt (8 : Nat) (y6.fdiv ((2 : Int) ^ min (IntKind.u64.wrap (y8.tmod (8 : Int))).toNat (8 : Nat))) &&&
                        BitVec.ofInt (8 : Nat) (1 : Int)).toNat :
                  Int) ==
              (1 : Int))
            (bd
              (grd (allB y7 && (isN y8 && decide (y7.length < (1000000 : Nat))))
                ((setS y7 y8 true, ()), (), (), (), ()))
              fun (x10 : (List Int × Unit) × Unit × Unit × Unit × Unit) => rec3 (y5, y6, x10.1.1, IntKind.i64.wrap (y8 + (1 : Int)), ()))
            (rec3 (y5, y6, y7, IntKind.i64.wrap (y8 + (1 : Int)), ())))
          none)
        none))
  (bd
    (grd (allB y7 && (isN (↑y5.length : Int) && decide (y7.length < (1000000 : Nat))))
      (((unpackB y7 (↑y5.length : Int)).1, (unpackB y7 (↑y5.length : Int)).2, ()), (), (), ()))
    fun (x11 : (List Bool × Bool × Unit) × Unit × Unit × Unit) =>
    br x11.1.2.1
      (bd (grd (decide (x11.1.1.length < (1000000 : Nat))) ((sameS x11.1.1 y5, ()), (), (), ()))
        fun (x12 : (Bool × Unit) × Unit × Unit × Unit) => some ((x12.1.1, ()), (), (), ()))
      (some ((false, ()), (), (), ())))
def lBitsSpare_P (K : Nat) (a0 : List Bool) (a1 : Int) : Option ((Bool × Unit) × Unit × Unit × Unit) :=
  br ((↑a0.length : Int) == (0 : Int)) (some ((true, ()), (), (), ()))
  (br (decide ((↑a0.length : Int) > (100 : Int))) (some ((true, ()), (), (), ()))
    (br (!true) (some ((true, ()), (), (), ()))
      (bd (grd (decide (a0.length < (1000000 : Nat))) ((pkS a0, ()), (), ())) fun (x1 : (List Int × Unit) × Unit × Unit) =>
        bd (grd (isN (↑a0.length : Int)) ((bytesS (↑a0.length : Int), ()), (), ()))
          fun (x2 : (Int × Unit) × Unit × Unit) =>
          br ((↑x1.1.1.length : Int) != x2.1.1) (some ((false, ()), (), (), ()))
            (loopN lBitsSpare_L1 K (a0, a1, x1.1.1, (↑a0.length : Int), ())))))
theorem lBitsSpare_rn (K : Nat) (a0 : List
  Bool) (a1 : Int) : runF (cfgW g_lBitsSpare) K f_lBitsSpare lBitsSpare_tm [.val (.slice .bool), .val tB] [.val .bool] (a0, a1, ()) = lBitsSpare_P K a0 a1 := by kernel_rfl
end
end Go.BB
