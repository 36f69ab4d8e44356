/- A symbolic machine for the model's code, and what it shows of this seat's functions. No conditions. -/
import Derived.Test.YtnofmeckcimodaaASStore
set_option linter.unusedVariables false
set_option linter.unusedSimpArgs false
/-! contracts of the document's stores -/
namespace Go.BB
open Go
abbrev Row := Key × List Ver
abbrev Ref := Int × Int × List Row × Unit
/-- how many rows stand ahead of a key -/
def cntR : List Row → Key → Nat
  | [], _ => 0
  | r :: l, k => if keyLt r.1 k then cntR l k + 1 else 0
def hasR (l : List Row) (k : Key) : Bool := decide (cntR l k < l.length) && decide ((l.getD (cntR l k) ((0, 0), [])).1 = k)
def rowOf (l : List Row) (k : Key) : List Ver := if hasR l k then (l.getD (cntR l k) ((0, 0), [])).2 else []
/-- rising keys -/
def srtR : List Row → Bool
  | [] => true
  | [_] => true
  | a :: b :: l => keyLt a.1 b.1 && srtR (b :: l)
def laidR (l : List Row) (k : Key) (v : Ver) : List Row :=
  if hasR l k then l.set (cntR l k) ((l.getD (cntR l k) ((0, 0), [])).1, (l.getD (cntR l k) ((0, 0), [])).2 ++ [v])
  else l.take (cntR l k) ++ (k, [v]) :: l.drop (cntR l k)
def laidAllR (q : Int) (m : List Row) (l : List Cel) : List Row := l.foldl (fun m c => laidR m c.1 (q, c.2)) m
/-- what is so of each of the document's stores -/
def refOk (x : Ref) : Bool := isU x.1 && (decide (x.2.1 ≤ 1048576) && (decide ((chsLen x.2.2.1 : Int) ≤ x.2.1) && (decide (chsLen x.2.2.1 ≤ 500000) && (srtR x.2.2.1 && (decide (x.2.2.1.length ≤ 262144) && (x.2.2.1.all fun p => decide (p.2 ≠ []) && (rightFrom 0 p.2 && decide (newS p.2 ≤ x.1))))))))
def sortedS (l : List Cel) : List Cel × Bool := if onceGo [] l then (l.foldl putK [], true) else ([], false)
def rinstS (x : Ref) (l : List Cel) : (Int × Int) × Ref :=
  if onceS l = false then ((0, 1), x)
  else if x.1 = 18446744073709551615 then ((0, 8), x)
  else if (chsLen x.2.2.1 : Int) + l.length > x.2.1 then ((0, 4), x)
  else ((x.1 + 1, 0), (x.1 + 1, x.2.1, laidAllR (x.1 + 1) x.2.2.1 l, ()))
def rstNewS (first most : Int) : Ref := (first, min (max most 0) 1048576, [], ())
abbrev c_rstNew : Ctr O0 := ⟨[.val tU, .val tI], [.box shRef], fun (x : Int × Int × Unit) => some ((rstNewS x.1 x.2.1, ()), ((), (), ()))⟩
abbrev c_place : Ctr O0 := ⟨[.rop tRef, .val tKey], [.val tI, .val .bool], fun (x : Ref × Key × Unit) => grd (lenOk x.1.2.2.1 && srtR x.1.2.2.1) ((((cntR x.1.2.2.1 x.2.1 : Nat) : Int), hasR x.1.2.2.1 x.2.1, ()), ((), (), ()))⟩
abbrev c_rstRead : Ctr O0 := ⟨[.rop tRef, .val tKey, .val tU], [.val tW], fun (x : Ref × Key × Int × Unit) => grd (refOk x.1) ((atV (rowOf x.1.2.2.1 x.2.1) x.2.2.1, ()), ((), (), (), ()))⟩
abbrev c_rstNewest : Ctr O0 := ⟨[.rop tRef, .val tKey], [.val tU], fun (x : Ref × Key × Unit) => grd (refOk x.1) ((newS (rowOf x.1.2.2.1 x.2.1), ()), ((), (), ()))⟩
abbrev c_rstVersions : Ctr O0 := ⟨[.rop tRef], [.val tI], fun (x : Ref × Unit) => grd (lenOk x.1.2.2.1 && decide (chsLen x.1.2.2.1 ≤ 1048576)) (((chsLen x.1.2.2.1 : Int), ()), ((), ()))⟩
abbrev c_rcelR := c_cright
abbrev c_sorted : Ctr O0 := ⟨[.val (.slice tCell)], [.own tCell, .val .bool], fun (x : List Cel × Unit) => grd (lenOk x.1) (((sortedS x.1).1, (sortedS x.1).2, ()), ((), ()))⟩
abbrev c_rstInstall : Ctr O0 := ⟨[.box shRef, .val (.slice tCell)], [.val tU, .val tI], fun (x : Ref × List Cel × Unit) => grd (refOk x.1 && (lenOk x.2.1 && decide (x.2.1.length ≤ 100000))) (((rinstS x.1 x.2.1).1.1, (rinstS x.1 x.2.1).1.2, ()), ((rinstS x.1 x.2.1).2, (), ()))⟩
end Go.BB
