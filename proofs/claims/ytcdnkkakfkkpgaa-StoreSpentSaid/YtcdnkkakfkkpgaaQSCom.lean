/- A symbolic machine for the model's code, and what it shows of this seat's functions. No conditions. -/
import Derived.Test.YtcdnkkakfkkpgaaQTys
set_option linter.unusedSimpArgs false
set_option linter.unusedVariables false
/-! contracts of what lends lists, and holds lists against each other -/
namespace Go.BB
open Go
def lentS {α : Type} (m : α) (l : List α) : List α := l ++ [m, m, m]
def staysS {α : Type} [DecidableEq α] (m : α) (ys : List α) (n : Nat) (l : List α) : Bool := decide (ys = l ++ [m, m, m]) && decide (n = l.length)
def sameS {α : Type} [DecidableEq α] (a b : List α) : Bool := decide (a = b)
/-- a number from 0 to n - 1 -/
abbrev c_within : Ctr O0 := ⟨[.val tI, .val tI], [.val tI], fun (x : Int × Int × Unit) => grd (decide (0 < x.2.1) && decide (x.2.1 < 4611686018427387904)) ((x.1 % x.2.1, ()), ((), (), ()))⟩
def digitS (k d n : Int) : Int := IntKind.i64.wrap (k.tdiv d) % n
abbrev c_digit : Ctr O0 := ⟨[.val tI, .val tI, .val tI], [.val tI], fun (x : Int × Int × Int × Unit) => grd (decide (0 < x.2.1) && (decide (0 < x.2.2.1) && decide (x.2.2.1 < 4611686018427387904))) ((digitS x.1 x.2.1 x.2.2.1, ()), ((), (), (), ()))⟩
def atS (ks : List Int) (i : Int) : Int := if 0 ≤ i then ks.getD i.toNat 0 else 0
abbrev c_at : Ctr O0 := ⟨[.val (.slice tI), .val tI], [.val tI], fun (x : List Int × Int × Unit) => some ((atS x.1 x.2.1, ()), ((), (), ()))⟩
abbrev c_awake : Ctr O0 := ⟨[], [.val .bool], fun _ => some ((true, ()), ())⟩
abbrev c_awake2 := c_awake
abbrev c_awake16 := c_awake
abbrev c_lentBits : Ctr O0 := ⟨[.val (.slice .bool)], [.sub .bool], fun (x : List Bool × Unit) => grd (decide (x.1.length < 1000000)) (((lentS true x.1, x.1.length), ()), ((), ()))⟩
abbrev c_staysBits : Ctr O0 := ⟨[.row .bool, .val (.slice .bool)], [.val .bool], fun (x : (List Bool × Nat) × List Bool × Unit) => grd (staysS true x.1.1 x.1.2 x.2.1 && decide (x.2.1.length < 1000000)) ((true, ()), (x.1.1, (), ()))⟩
abbrev c_sameBits : Ctr O0 := ⟨[.val (.slice .bool), .val (.slice .bool)], [.val .bool], fun (x : List Bool × List Bool × Unit) => grd (decide (x.1.length < 1000000)) ((sameS x.1 x.2.1, ()), ((), (), ()))⟩
abbrev c_cloneBits : Ctr O0 := ⟨[.val (.slice .bool)], [.own .bool], fun (x : List Bool × Unit) => grd (decide (x.1.length < 1000000)) ((x.1, ()), ((), ()))⟩
abbrev c_lentBytes : Ctr O0 := ⟨[.val (.slice tB)], [.sub tB], fun (x : List Int × Unit) => grd (decide (x.1.length < 1000000)) (((lentS (165 : Int) x.1, x.1.length), ()), ((), ()))⟩
abbrev c_staysBytes : Ctr O0 := ⟨[.row tB, .val (.slice tB)], [.val .bool], fun (x : (List Int × Nat) × List Int × Unit) => grd (staysS (165 : Int) x.1.1 x.1.2 x.2.1 && decide (x.2.1.length < 1000000)) ((true, ()), (x.1.1, (), ()))⟩
abbrev c_sameBytes : Ctr O0 := ⟨[.val (.slice tB), .val (.slice tB)], [.val .bool], fun (x : List Int × List Int × Unit) => grd (decide (x.1.length < 1000000)) ((sameS x.1 x.2.1, ()), ((), (), ()))⟩
abbrev c_cloneBytes : Ctr O0 := ⟨[.val (.slice tB)], [.own tB], fun (x : List Int × Unit) => grd (decide (x.1.length < 1000000)) ((x.1, ()), ((), ()))⟩
abbrev c_lentWords : Ctr O0 := ⟨[.val (.slice tW)], [.sub tW], fun (x : List Int × Unit) => grd (decide (x.1.length < 1000000)) (((lentS (42405 : Int) x.1, x.1.length), ()), ((), ()))⟩
abbrev c_staysWords : Ctr O0 := ⟨[.row tW, .val (.slice tW)], [.val .bool], fun (x : (List Int × Nat) × List Int × Unit) => grd (staysS (42405 : Int) x.1.1 x.1.2 x.2.1 && decide (x.2.1.length < 1000000)) ((true, ()), (x.1.1, (), ()))⟩
abbrev c_sameWords : Ctr O0 := ⟨[.val (.slice tW), .val (.slice tW)], [.val .bool], fun (x : List Int × List Int × Unit) => grd (decide (x.1.length < 1000000)) ((sameS x.1 x.2.1, ()), ((), (), ()))⟩
abbrev c_cloneWords : Ctr O0 := ⟨[.val (.slice tW)], [.own tW], fun (x : List Int × Unit) => grd (decide (x.1.length < 1000000)) ((x.1, ()), ((), ()))⟩
abbrev c_lentSpans : Ctr O0 := ⟨[.val (.slice tSpan)], [.sub tSpan], fun (x : List (Int × Int × Int) × Unit) => grd (decide (x.1.length < 1000000)) (((lentS ((7 : Int), (7 : Int), (7 : Int)) x.1, x.1.length), ()), ((), ()))⟩
abbrev c_staysSpans : Ctr O0 := ⟨[.row tSpan, .val (.slice tSpan)], [.val .bool], fun (x : (List (Int × Int × Int) × Nat) × List (Int × Int × Int) × Unit) => grd (staysS ((7 : Int), (7 : Int), (7 : Int)) x.1.1 x.1.2 x.2.1 && decide (x.2.1.length < 1000000)) ((true, ()), (x.1.1, (), ()))⟩
abbrev c_sameSpans : Ctr O0 := ⟨[.val (.slice tSpan), .val (.slice tSpan)], [.val .bool], fun (x : List (Int × Int × Int) × List (Int × Int × Int) × Unit) => grd (decide (x.1.length < 1000000)) ((sameS x.1 x.2.1, ()), ((), (), ()))⟩
abbrev c_cloneSpans : Ctr O0 := ⟨[.val (.slice tSpan)], [.own tSpan], fun (x : List (Int × Int × Int) × Unit) => grd (decide (x.1.length < 1000000)) ((x.1, ()), ((), ()))⟩
abbrev c_lentCells : Ctr O0 := ⟨[.val (.slice tCell)], [.sub tCell], fun (x : List ((Int × Int) × Int) × Unit) => grd (decide (x.1.length < 1000000)) (((lentS (((0 : Int), (0 : Int)), (7 : Int)) x.1, x.1.length), ()), ((), ()))⟩
abbrev c_staysCells : Ctr O0 := ⟨[.row tCell, .val (.slice tCell)], [.val .bool], fun (x : (List ((Int × Int) × Int) × Nat) × List ((Int × Int) × Int) × Unit) => grd (staysS (((0 : Int), (0 : Int)), (7 : Int)) x.1.1 x.1.2 x.2.1 && decide (x.2.1.length < 1000000)) ((true, ()), (x.1.1, (), ()))⟩
abbrev c_sameCells : Ctr O0 := ⟨[.val (.slice tCell), .val (.slice tCell)], [.val .bool], fun (x : List ((Int × Int) × Int) × List ((Int × Int) × Int) × Unit) => grd (decide (x.1.length < 1000000)) ((sameS x.1 x.2.1, ()), ((), (), ()))⟩
abbrev c_cloneCells : Ctr O0 := ⟨[.val (.slice tCell)], [.own tCell], fun (x : List ((Int × Int) × Int) × Unit) => grd (decide (x.1.length < 1000000)) ((x.1, ()), ((), ()))⟩
abbrev c_lentVersions : Ctr O0 := ⟨[.val (.slice tVer)], [.sub tVer], fun (x : List (Int × Int) × Unit) => grd (decide (x.1.length < 1000000)) (((lentS ((7 : Int), (7 : Int)) x.1, x.1.length), ()), ((), ()))⟩
abbrev c_staysVersions : Ctr O0 := ⟨[.row tVer, .val (.slice tVer)], [.val .bool], fun (x : (List (Int × Int) × Nat) × List (Int × Int) × Unit) => grd (staysS ((7 : Int), (7 : Int)) x.1.1 x.1.2 x.2.1 && decide (x.2.1.length < 1000000)) ((true, ()), (x.1.1, (), ()))⟩
abbrev c_sameVersions : Ctr O0 := ⟨[.val (.slice tVer), .val (.slice tVer)], [.val .bool], fun (x : List (Int × Int) × List (Int × Int) × Unit) => grd (decide (x.1.length < 1000000)) ((sameS x.1 x.2.1, ()), ((), (), ()))⟩
abbrev c_cloneVersions : Ctr O0 := ⟨[.val (.slice tVer)], [.own tVer], fun (x : List (Int × Int) × Unit) => grd (decide (x.1.length < 1000000)) ((x.1, ()), ((), ()))⟩
abbrev c_lentObjects : Ctr O0 := ⟨[.val (.slice tObj)], [.sub tObj], fun (x : List (Int × ByteArray) × Unit) => grd (decide (x.1.length < 1000000)) (((lentS ((7 : Int), (⟨#[109]⟩ : ByteArray)) x.1, x.1.length), ()), ((), ()))⟩
abbrev c_staysObjects : Ctr O0 := ⟨[.row tObj, .val (.slice tObj)], [.val .bool], fun (x : (List (Int × ByteArray) × Nat) × List (Int × ByteArray) × Unit) => grd (staysS ((7 : Int), (⟨#[109]⟩ : ByteArray)) x.1.1 x.1.2 x.2.1 && decide (x.2.1.length < 1000000)) ((true, ()), (x.1.1, (), ()))⟩
abbrev c_sameObjects : Ctr O0 := ⟨[.val (.slice tObj), .val (.slice tObj)], [.val .bool], fun (x : List (Int × ByteArray) × List (Int × ByteArray) × Unit) => grd (decide (x.1.length < 1000000)) ((sameS x.1 x.2.1, ()), ((), (), ()))⟩
abbrev c_cloneObjects : Ctr O0 := ⟨[.val (.slice tObj)], [.own tObj], fun (x : List (Int × ByteArray) × Unit) => grd (decide (x.1.length < 1000000)) ((x.1, ()), ((), ()))⟩
abbrev c_sameInts : Ctr O0 := ⟨[.val (.slice tI), .val (.slice tI)], [.val .bool], fun (x : List Int × List Int × Unit) => grd (decide (x.1.length < 1000000)) ((sameS x.1 x.2.1, ()), ((), (), ()))⟩
end Go.BB
