/- A symbolic machine for the model's code, and what it shows of this seat's functions. No conditions. -/
import Derived.Test.YtiaidfgioecdiabSBits
import Derived.Test.YtiaidfgioecdiabLem
set_option linter.unusedVariables false
set_option linter.unusedSimpArgs false
namespace Go.BB
open Go
theorem sh3 (x : Int) : x.fdiv ((2 : Int) ^ min (Int.toNat (3 : Int)) (64 : Nat)) = x / 8 := by
  rw [show ((2 : Int) ^ min (Int.toNat (3 : Int)) (64 : Nat)) = 8 by decide]
  exact Int.fdiv_eq_ediv_of_nonneg _ (by decide)
theorem and7 (y : Int) : IntKind.u64.wrap (IntKind.i64.wrap (↑(BitVec.ofInt (64 : Nat) y &&& BitVec.ofInt (64 : Nat) (7 : Int)).toNat : Int)) = y % 8 := by
  have e : (BitVec.ofInt (64 : Nat) y &&& BitVec.ofInt (64 : Nat) (7 : Int)).toNat = (y % 18446744073709551616).toNat % 8 := by
    rw [BitVec.toNat_and, BitVec.toNat_ofInt, BitVec.toNat_ofInt]
    rw [show ((7 : Int) % ((2 ^ 64 : Nat) : Int)).toNat = 2 ^ 3 - 1 by decide, Nat.and_two_pow_sub_one_eq_mod]
    rfl
  rw [e]
  have : (((y % 18446744073709551616).toNat % 8 : Nat) : Int) = y % 8 := by omega
  rw [this, wrapI (by omega) (by omega), wrapU (by omega) (by omega)]
theorem byte_ops : ∀ (x : Fin 256) (k : Fin 8),
    IntKind.u8.wrap (↑(BitVec.ofInt (8 : Nat) (x.val : Int) ||| BitVec.ofInt (8 : Nat) (IntKind.u8.wrap ((1 : Int) * (2 : Int) ^ min k.val (8 : Nat)))).toNat : Int) = setByte x.val k.val true ∧
    IntKind.u8.wrap (↑(BitVec.ofInt (8 : Nat) (x.val : Int) &&& ~~~BitVec.ofInt (8 : Nat) (IntKind.u8.wrap ((1 : Int) * (2 : Int) ^ min k.val (8 : Nat)))).toNat : Int) = setByte x.val k.val false ∧
    IntKind.u8.wrap (↑(BitVec.ofInt (8 : Nat) (Int.fdiv (x.val : Int) ((2 : Int) ^ min k.val (8 : Nat))) &&& BitVec.ofInt (8 : Nat) (1 : Int)).toNat : Int) = ((x.val : Int) / 2 ^ k.val) % 2 ∧
    setByte (setByte x.val k.val false) k.val true = setByte x.val k.val true ∧ (∀ v, 0 ≤ setByte x.val k.val v ∧ setByte x.val k.val v < 256) ∧
    (((x.val : Int) / 2 ^ k.val) % 2 = 0 → IntKind.u8.wrap ((x.val : Int) + 2 ^ k.val) = setByte x.val k.val true ∧ setByte x.val k.val false = x.val) ∧
    (((x.val : Int) / 2 ^ k.val) % 2 = 1 → IntKind.u8.wrap ((x.val : Int) - 2 ^ k.val) = setByte x.val k.val false ∧ setByte x.val k.val true = x.val) ∧
    (IntKind.u8.wrap (Int.tdiv (x.val : Int) (2 ^ k.val))).tmod 2 = ((x.val : Int) / 2 ^ k.val) % 2 ∧
    (∀ q : Fin 8, ∀ v, (setByte x.val k.val v / 2 ^ q.val) % 2 = if q = k then (if v then 1 else 0) else ((x.val : Int) / 2 ^ q.val) % 2) := by decide +kernel
end Go.BB
