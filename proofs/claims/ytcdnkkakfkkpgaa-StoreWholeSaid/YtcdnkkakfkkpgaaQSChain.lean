/- A symbolic machine for the model's code, and what it shows of this seat's functions. No conditions. -/
import Derived.Test.YtcdnkkakfkkpgaaQSCom
set_option linter.unusedSimpArgs false
set_option linter.unusedVariables false
/-! contracts of chain -/
namespace Go.BB
open Go
/-- rising numbers, the first one above a -/
def rightFrom (a : Int) : List (Int × Int) → Bool
  | [] => true
  | v :: l => decide (a < v.1) && rightFrom v.1 l
/-- how many stand at most at q -/
def cnt : List (Int × Int) → Int → Nat
  | [], _ => 0
  | v :: l, q => if v.1 ≤ q then cnt l q + 1 else 0
def atV (l : List (Int × Int)) (q : Int) : Int := if cnt l q = 0 then 0 else (l.getD (cnt l q - 1) (0, 0)).2
def newS (l : List (Int × Int)) : Int := if l.length = 0 then 0 else (l.getD (l.length - 1) (0, 0)).1
def addS (l : List (Int × Int)) (v : Int × Int) : List (Int × Int) × Int := if v.1 ≤ newS l then ([], 1) else (l ++ [v], 0)
def trimS (l : List (Int × Int)) (m : Int) : List (Int × Int) := l.drop (cnt l m - 1)
def chainFrom (n : Int) : List Int → List (Int × Int)
  | [] => []
  | k :: ks => (n + 1 + k % 5, digitS k 5 65536) :: chainFrom (n + 1 + k % 5) ks
def chainS (ks : List Int) : List (Int × Int) := chainFrom 0 (ks.take 20)
def lenOk {α : Type} (l : List α) : Bool := decide (l.length < 1000000)
/-- numbers of 64 bits -/
def isU (n : Int) : Bool := decide (0 ≤ n) && decide (n ≤ 18446744073709551615)
def allU (l : List (Int × Int)) : Bool := l.all fun v => isU v.1
abbrev c_chainRight : Ctr O0 := ⟨[.val (.slice tVer)], [.val .bool], fun (x : List (Int × Int) × Unit) => grd (lenOk x.1) ((rightFrom 0 x.1, ()), ((), ()))⟩
abbrev c_rchainRight : Ctr O0 := ⟨[.val (.slice tVer)], [.val .bool], fun (x : List (Int × Int) × Unit) => grd (lenOk x.1 && allU x.1) ((rightFrom 0 x.1, ()), ((), ()))⟩
abbrev c_upto : Ctr O0 := ⟨[.val (.slice tVer), .val tU], [.val tI], fun (x : List (Int × Int) × Int × Unit) => grd (lenOk x.1 && rightFrom 0 x.1) ((((cnt x.1 x.2.1 : Nat) : Int), ()), ((), (), ()))⟩
abbrev c_chainAt : Ctr O0 := ⟨[.val (.slice tVer), .val tU], [.val tW], fun (x : List (Int × Int) × Int × Unit) => grd (lenOk x.1 && rightFrom 0 x.1) ((atV x.1 x.2.1, ()), ((), (), ()))⟩
abbrev c_rchainAt : Ctr O0 := ⟨[.val (.slice tVer), .val tU], [.val tW], fun (x : List (Int × Int) × Int × Unit) => grd (lenOk x.1) ((atV x.1 x.2.1, ()), ((), (), ()))⟩
abbrev c_newest : Ctr O0 := ⟨[.val (.slice tVer)], [.val tU], fun (x : List (Int × Int) × Unit) => grd (lenOk x.1) ((newS x.1, ()), ((), ()))⟩
abbrev c_rnewest := c_newest
abbrev c_chainAdd : Ctr O0 := ⟨[.val (.slice tVer), .val tVer], [.own tVer, .val tI], fun (x : List (Int × Int) × (Int × Int) × Unit) => grd (lenOk x.1) (((addS x.1 x.2.1).1, (addS x.1 x.2.1).2, ()), ((), (), ()))⟩
abbrev c_rchainAdd := c_chainAdd
abbrev c_trim : Ctr O0 := ⟨[.val (.slice tVer), .val tU], [.own tVer], fun (x : List (Int × Int) × Int × Unit) => grd (lenOk x.1 && rightFrom 0 x.1) ((trimS x.1 x.2.1, ()), ((), (), ()))⟩
abbrev c_rtrim := c_trim
abbrev c_chain : Ctr O0 := ⟨[.val (.slice tI)], [.own tVer], fun (x : List Int × Unit) => some ((chainS x.1, ()), ((), ()))⟩
end Go.BB
