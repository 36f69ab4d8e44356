/- A symbolic machine for the model's code, and what it shows of this seat's functions. No conditions. -/
import Derived.Test.YtiaidfgioecdiabSCom
set_option linter.unusedSimpArgs false
set_option linter.unusedVariables false
/-! contracts of bits -/
namespace Go.BB
open Go
def bytesS (n : Int) : Int := if n < 1 then 0 else (n - 1) / 8 + 1
/-- the number that at most n bits are -/
def byteN : Nat → List Bool → Int
  | 0, _ => 0
  | _ + 1, [] => 0
  | n + 1, b :: l => (if b then 1 else 0) + 2 * byteN n l
def pkS (l : List Bool) : List Int := (List.range ((l.length + 7) / 8)).map fun j => byteN 8 (l.drop (8 * j))
/-- bit i of a row of bytes -/
def bitS (b : List Int) (i : Int) : Bool := decide (0 ≤ i) && decide (i / 8 < b.length) && ((b.getD (i / 8).toNat 0 / 2 ^ (i % 8).toNat) % 2 == 1)
def setByte (x : Int) (k : Nat) (v : Bool) : Int := x - (x / 2 ^ k) % 2 * 2 ^ k + (if v then 2 ^ k else 0)
def setS (b : List Int) (i : Int) (v : Bool) : List Int := if 0 ≤ i ∧ i / 8 < b.length then b.set (i / 8).toNat (setByte (b.getD (i / 8).toNat 0) (i % 8).toNat v) else b
def allB (b : List Int) : Bool := b.all fun x => decide (0 ≤ x) && decide (x < 256)
def isN (n : Int) : Bool := decide (-9223372036854775808 ≤ n) && decide (n ≤ 9223372036854775807)
def unpackB (b : List Int) (n : Int) : List Bool × Bool := if n < 0 ∨ (b.length : Int) ≠ bytesS n then ([], false) else ((List.range n.toNat).map fun (i : Nat) => bitS b (i : Int), true)
abbrev c_bytes : Ctr O0 := ⟨[.val tI], [.val tI], fun (x : Int × Unit) => grd (isN x.1) ((bytesS x.1, ()), ((), ()))⟩
abbrev c_pack : Ctr O0 := ⟨[.val (.slice .bool)], [.own tB], fun (x : List Bool × Unit) => grd (decide (x.1.length < 1000000)) ((pkS x.1, ()), ((), ()))⟩
abbrev c_get : Ctr O0 := ⟨[.val (.slice tB), .val tI], [.val .bool], fun (x : List Int × Int × Unit) => grd (allB x.1 && isN x.2.1) ((bitS x.1 x.2.1, ()), ((), (), ()))⟩
abbrev c_set : Ctr O0 := ⟨[.val (.slice tB), .val tI, .val .bool], [.own tB], fun (x : List Int × Int × Bool × Unit) => grd (allB x.1 && (isN x.2.1 && decide (x.1.length < 1000000))) ((setS x.1 x.2.1 x.2.2.1, ()), ((), (), (), ()))⟩
abbrev c_unpack : Ctr O0 := ⟨[.val (.slice tB), .val tI], [.own .bool, .val .bool], fun (x : List Int × Int × Unit) => grd (allB x.1 && (isN x.2.1 && decide (x.1.length < 1000000))) (((unpackB x.1 x.2.1).1, (unpackB x.1 x.2.1).2, ()), ((), (), ()))⟩
abbrev c_power : Ctr O0 := ⟨[.val tI], [.val tB], fun (x : Int × Unit) => grd (decide (0 ≤ x.1) && decide (x.1 < 8)) (((2 : Int) ^ x.1.toNat, ()), ((), ()))⟩
abbrev c_rbytes := c_bytes
abbrev c_rpack := c_pack
abbrev c_rbit := c_get
abbrev c_rset := c_set
abbrev c_runpack := c_unpack
end Go.BB
