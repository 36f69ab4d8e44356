/- A symbolic machine for the model's code, and what it shows of this seat's functions. No conditions. -/
import Derived.Test.YtnofmeckcimodaaCSStore
import Derived.Test.YtnofmeckcimodaaCTyF
set_option linter.unusedVariables false
set_option linter.unusedSimpArgs false
/-! contracts of the document's stores -/
namespace Go.BB
open Go
abbrev Row := Key × List Ver
abbrev Ref := Int × Int × List Row × Unit
/-- how many rows stand ahead of a key -/
def cntR : List Row → Key → Nat
  | [], _ => 0
  | r :: l, k => if keyLt r.1 k then cntR l k + 1 else 0
def hasR (l : List Row) (k : Key) : Bool := decide (cntR l k < l.length) && decide ((l.getD (cntR l k) ((0, 0), [])).1 = k)
def rowOf (l : List Row) (k : Key) : List Ver := if hasR l k then (l.getD (cntR l k) ((0, 0), [])).2 else []
/-- rising keys -/
def srtR : List Row → Bool
  | [] => true
  | [_] => true
  | a :: b :: l => keyLt a.1 b.1 && srtR (b :: l)
def laidR (l : List Row) (k : Key) (v : Ver) : List Row :=
  if hasR l k then l.set (cntR l k) ((l.getD (cntR l k) ((0, 0), [])).1, (l.getD (cntR l k) ((0, 0), [])).2 ++ [v])
  else l.take (cntR l k) ++ (k, [v]) :: l.drop (cntR l k)
def laidAllR (q : Int) (m : List Row) (l : List Cel) : List Row := l.foldl (fun m c => laidR m c.1 (q, c.2)) m
/-- what is so of each of the document's stores -/
def refOk (x : Ref) : Bool := isU x.1 && (decide (x.2.1 ≤ 1048576) && (decide ((chsLen x.2.2.1 : Int) ≤ x.2.1) && (decide (chsLen x.2.2.1 ≤ 500000) && (srtR x.2.2.1 && (decide (x.2.2.1.length ≤ 262144) && (x.2.2.1.all fun p => decide (p.2 ≠ []) && (rightFrom 0 p.2 && decide (newS p.2 ≤ x.1))))))))
def sortedS (l : List Cel) : List Cel × Bool := if onceGo [] l then (l.foldl putK [], true) else ([], false)
def rinstS (x : Ref) (l : List Cel) : (Int × Int) × Ref :=
  if onceS l = false then ((0, 1), x)
  else if x.1 = 18446744073709551615 then ((0, 8), x)
  else if (chsLen x.2.2.1 : Int) + l.length > x.2.1 then ((0, 4), x)
  else ((x.1 + 1, 0), (x.1 + 1, x.2.1, laidAllR (x.1 + 1) x.2.2.1 l, ()))
def rstNewS (first most : Int) : Ref := (first, min (max most 0) 1048576, [], ())
abbrev c_rstNew : Ctr O0 := ⟨[.val tU, .val tI], [.box shRef], fun (x : Int × Int × Unit) => some ((rstNewS x.1 x.2.1, ()), ((), (), ()))⟩
abbrev c_place : Ctr O0 := ⟨[.rop tRef, .val tKey], [.val tI, .val .bool], fun (x : Ref × Key × Unit) => grd (lenOk x.1.2.2.1 && srtR x.1.2.2.1) ((((cntR x.1.2.2.1 x.2.1 : Nat) : Int), hasR x.1.2.2.1 x.2.1, ()), ((), (), ()))⟩
abbrev c_rstRead : Ctr O0 := ⟨[.rop tRef, .val tKey, .val tU], [.val tW], fun (x : Ref × Key × Int × Unit) => grd (refOk x.1) ((atV (rowOf x.1.2.2.1 x.2.1) x.2.2.1, ()), ((), (), (), ()))⟩
abbrev c_rstNewest : Ctr O0 := ⟨[.rop tRef, .val tKey], [.val tU], fun (x : Ref × Key × Unit) => grd (refOk x.1) ((newS (rowOf x.1.2.2.1 x.2.1), ()), ((), (), ()))⟩
abbrev c_rstVersions : Ctr O0 := ⟨[.rop tRef], [.val tI], fun (x : Ref × Unit) => grd (lenOk x.1.2.2.1 && decide (chsLen x.1.2.2.1 ≤ 1048576)) (((chsLen x.1.2.2.1 : Int), ()), ((), ()))⟩
abbrev c_rcelR := c_cright
abbrev c_sorted : Ctr O0 := ⟨[.val (.slice tCell)], [.own tCell, .val .bool], fun (x : List Cel × Unit) => grd (lenOk x.1) (((sortedS x.1).1, (sortedS x.1).2, ()), ((), ()))⟩
abbrev c_rstInstall : Ctr O0 := ⟨[.box shRef, .val (.slice tCell)], [.val tU, .val tI], fun (x : Ref × List Cel × Unit) => grd (refOk x.1 && (lenOk x.2.1 && decide (x.2.1.length ≤ 100000))) (((rinstS x.1 x.2.1).1.1, (rinstS x.1 x.2.1).1.2, ()), ((rinstS x.1 x.2.1).2, (), ()))⟩
end Go.BB
/-! contracts of plain registers, and of deeds in order -/
namespace Go.BB
open Go
abbrev AskT := Int × Int × Int × Int × Int × Int × List Bool × List Int × Int × Int × Int × Int
abbrev ObjT := Int × ByteArray
abbrev TellT := Int × Int × List Bool × List Int × Int × Int × Int × Int × Int × Int × Int × Bool × Int × List ObjT
abbrev StepT := AskT × TellT
abbrev Deed := Bool × Int × List StepT × List Cel
abbrev Regs := List (Key × Int)
def lateS (d : Deed) : Int := if d.1 then 0 else 1
def cmp3 (a b : Int) : Int := if a < b then -1 else if a > b then 1 else 0
def firstNZ : List Int → Int
  | [] => 0
  | a :: l => if a ≠ 0 then a else firstNZ l
def deedCmp (a b : Deed) : Int := if cmp3 a.2.1 b.2.1 ≠ 0 then cmp3 a.2.1 b.2.1 else cmp3 (lateS a) (lateS b)
def stepOk (s : StepT) : Bool := lenOk s.1.2.2.2.2.2.2.1 && (lenOk s.1.2.2.2.2.2.2.2.1 && (lenOk s.2.2.2.1 && (lenOk s.2.2.2.2.1 && lenOk s.2.2.2.2.2.2.2.2.2.2.2.2.2.2)))
def deedOk (d : Deed) : Bool := lenOk d.2.2.1 && (lenOk d.2.2.2 && d.2.2.1.all stepOk)
/-- x goes from the right end, past what is above it -/
def insD (x : Deed) : List Deed → List Deed
  | [] => [x]
  | a :: r => if deedCmp x a < 0 then a :: insD x r else x :: a :: r
/-- sorted, the last one first -/
def sortR (l : List Deed) : List Deed := l.foldl (fun r x => insD x r) []
def sortD (l : List Deed) : List Deed := (sortR l).reverse
/-- from a on, up to b -/
def sortSeg (l : List Deed) (a b : Int) : List Deed := l.take a.toNat ++ (sortD ((l.drop a.toNat).take (b - a).toNat) ++ l.drop b.toNat)
def setF (m : Regs) (l : List Cel) : Regs := l.foldl (fun m c => if keyR c.1 then mset eqK m c.1 c.2 else m) m
def getF (m : Regs) (k : Key) : Int := mgetD eqK m k 0
abbrev c_late : Ctr O0 := ⟨[.val tDeed], [.val tI], fun (x : Deed × Unit) => some ((lateS x.1, ()), ((), ()))⟩
abbrev c_isNaNU : Ctr O0 := ⟨[.val tU], [.val .bool], fun (_ : Int × Unit) => some ((false, ()), ((), ()))⟩
abbrev c_isNaNI : Ctr O0 := ⟨[.val tI], [.val .bool], fun (_ : Int × Unit) => some ((false, ()), ((), ()))⟩
abbrev c_cmpU : Ctr O0 := ⟨[.val tU, .val tU], [.val tI], fun (x : Int × Int × Unit) => some ((cmp3 x.1 x.2.1, ()), ((), (), ()))⟩
abbrev c_cmpI : Ctr O0 := ⟨[.val tI, .val tI], [.val tI], fun (x : Int × Int × Unit) => some ((cmp3 x.1 x.2.1, ()), ((), (), ()))⟩
abbrev c_cmpOr : Ctr O0 := ⟨[.val (.slice tI)], [.val tI], fun (x : List Int × Unit) => grd (lenOk x.1) ((firstNZ x.1, ()), ((), ()))⟩
abbrev c_ordLess : Ctr O0 := ⟨[.val tDeed, .val tDeed], [.val tI], fun (x : Deed × Deed × Unit) => some ((deedCmp x.1 x.2.1, ()), ((), (), ()))⟩
abbrev c_cloneSteps : Ctr O0 := ⟨[.val (.slice tStep)], [.own tStep], fun (x : List StepT × Unit) => grd (decide (x.1.length < 1000000)) ((x.1, ()), ((), ()))⟩
abbrev c_cloneObjs : Ctr O0 := ⟨[.val (.slice tObj)], [.own tObj], fun (x : List ObjT × Unit) => grd (decide (x.1.length < 1000000)) ((x.1, ()), ((), ()))⟩
abbrev c_own : Ctr O0 := ⟨[.val tDeed], [.val tDeed], fun (x : Deed × Unit) => grd (deedOk x.1) ((x.1, ()), ((), ()))⟩
abbrev c_insSort (g : Nat) : Ctr O0 := ⟨[.row tDeed, .val tI, .val tI, .fn g], [], fun (x : (List Deed × Nat) × Int × Int × Unit × Unit) => grd (decide (x.1.2 = x.1.1.length) && (decide (0 ≤ x.2.1) && (decide (x.2.1 ≤ x.2.2.1) && (decide (x.2.2.1 ≤ x.1.2) && decide (x.1.2 ≤ 1000))))) ((), (sortSeg x.1.1 x.2.1 x.2.2.1, (), (), (), ()))⟩
abbrev c_symMerge (g : Nat) : Ctr O0 := ⟨[.row tDeed, .val tI, .val tI, .val tI, .fn g], [], fun _ => none⟩
abbrev c_stable (g : Nat) : Ctr O0 := ⟨[.row tDeed, .val tI, .fn g], [], fun (x : (List Deed × Nat) × Int × Unit × Unit) => grd (decide (x.1.2 = x.1.1.length) && (decide (x.2.1 = x.1.2) && decide (x.1.2 ≤ 20))) ((), (sortD x.1.1, (), (), ()))⟩
abbrev c_sortStable (g : Nat) : Ctr O0 := ⟨[.row tDeed, .fn g], [], fun (x : (List Deed × Nat) × Unit × Unit) => grd (decide (x.1.2 = x.1.1.length) && decide (x.1.2 ≤ 20)) ((), (sortD x.1.1, (), ()))⟩
abbrev c_forder : Ctr O0 := ⟨[.val (.slice tDeed)], [.own tDeed], fun (x : List Deed × Unit) => grd (decide (x.1.length ≤ 20) && x.1.all deedOk) ((sortD x.1, ()), ((), ()))⟩
abbrev c_fnew : Ctr O0 := ⟨[], [.box shFile], fun (_ : Unit) => some (((([] : Regs), ()), ()), ())⟩
abbrev c_fset : Ctr O0 := ⟨[.box shFile, .val (.slice tCell)], [], fun (x : (Regs × Unit) × List Cel × Unit) => grd (lenOk x.2.1) ((), ((setF x.1.1 x.2.1, ()), (), ()))⟩
abbrev c_fget : Ctr O0 := ⟨[.box shFile, .val tKey], [.val tW], fun (x : (Regs × Unit) × Key × Unit) => some ((getF x.1.1 x.2.1, ()), ((x.1.1, ()), (), ()))⟩
abbrev c_awake27 := c_awake
end Go.BB
