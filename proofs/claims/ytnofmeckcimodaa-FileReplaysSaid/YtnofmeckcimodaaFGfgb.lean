/- A symbolic machine for the model's code, and what it shows of this seat's functions. No conditions. -/
import Derived.Test.YtnofmeckcimodaaFTyF
import Derived.Test.YtnofmeckcimodaaFN
set_option linter.unusedVariables false
set_option linter.unusedSimpArgs false
namespace Go.BB
open Go
def sameS {α : Type} [DecidableEq α] (a b : List α) : Bool := decide (a = b)
abbrev c_within : Ctr O0 := ⟨[.val tI, .val tI], [.val tI], fun (x : Int × Int × Unit) => grd (decide (0 < x.2.1) && decide (x.2.1 < 4611686018427387904)) ((x.1 % x.2.1, ()), ((), (), ()))⟩
def digitS (k d n : Int) : Int := IntKind.i64.wrap (k.tdiv d) % n
abbrev c_digit : Ctr O0 := ⟨[.val tI, .val tI, .val tI], [.val tI], fun (x : Int × Int × Int × Unit) => grd (decide (0 < x.2.1) && (decide (0 < x.2.2.1) && decide (x.2.2.1 < 4611686018427387904))) ((digitS x.1 x.2.1 x.2.2.1, ()), ((), (), (), ()))⟩
def atS (ks : List Int) (i : Int) : Int := if 0 ≤ i then ks.getD i.toNat 0 else 0
abbrev c_ati : Ctr O0 := ⟨[.val (.slice tI), .val tI], [.val tI], fun (x : List Int × Int × Unit) => some ((atS x.1 x.2.1, ()), ((), (), ()))⟩
abbrev c_awake : Ctr O0 := ⟨[], [.val .bool], fun _ => some ((true, ()), ())⟩
abbrev c_cloneBits : Ctr O0 := ⟨[.val (.slice .bool)], [.own .bool], fun (x : List Bool × Unit) => grd (decide (x.1.length < 1000000)) ((x.1, ()), ((), ()))⟩
abbrev c_cloneWords : Ctr O0 := ⟨[.val (.slice tW)], [.own tW], fun (x : List Int × Unit) => grd (decide (x.1.length < 1000000)) ((x.1, ()), ((), ()))⟩
abbrev c_cloneCells : Ctr O0 := ⟨[.val (.slice tCell)], [.own tCell], fun (x : List ((Int × Int) × Int) × Unit) => grd (decide (x.1.length < 1000000)) ((x.1, ()), ((), ()))⟩
end Go.BB
namespace Go.BB
open Go
def rightFrom (a : Int) : List (Int × Int) → Bool
 | [] => true
 | v :: l => decide (a < v.1) && rightFrom v.1 l
def newS (l : List (Int × Int)) : Int := if l.length = 0 then 0 else (l.getD (l.length - 1) (0, 0)).1
def lenOk {α : Type} (l : List α) : Bool := decide (l.length < 1000000)
end Go.BB
namespace Go.BB
open Go
def sw {α β : Type} (n : Int) (f : α → β) : List (Int × α) → α → Option β
 | [], d => some (f d)
 | (c, v) :: l, d => br (n == c) (some (f v)) (sw n f l d)
def swv {α : Type} (n : Int) : List (Int × α) → α → α
 | [], d => d
 | (c, v) :: l, d => if n = c then v else swv n l d
theorem sw_eq {α β : Type} (n : Int) (f : α → β) (l : List (Int × α)) (d : α) : sw n f l d = some (f (swv n l d)) := by
 induction l with
 | nil => rfl
 | cons p l ih =>
  obtain ⟨c, v⟩ := p
  simp only [sw, swv, br, ih]
  by_cases h : n = c
  ·subst h; simp
  ·have : (n == c) = false := by simpa using h
   simp [h, this]
def tabL : List (Int × (Int × Bool)) := [(1, (0, true)), (5, (0, true)), (15, (0, true)), (2, (1, true)), (3, (2, true)), (6, (2, true)), (16, (2, true)), (22, (2, true)), (23, (2, true)), (4, (3, true))]
def tabS (fn : Int) : Int × Bool := swv fn tabL (0, false)
def doesL : List (Int × (Bool × Bool)) := [(1, (true, false)), (2, (true, false)), (3, (true, false)), (4, (true, false)), (22, (true, true)), (23, (true, true)), (5, (false, true)), (6, (false, true)), (15, (false, true)), (16, (false, true))]
def doesS (fn : Int) : Bool × Bool := swv fn doesL (false, false)
def mostL : List (Int × (Int × Int)) := [(1, (2000, 0)), (2, (2000, 0)), (3, (125, 0)), (4, (125, 0)), (5, (0, 1)), (6, (0, 1)), (22, (0, 1)), (15, (0, 1968)), (16, (0, 123)), (23, (125, 121))]
def mostS (fn : Int) : Int × Int := swv fn mostL (0, 0)
def knownS (fn : Int) : Bool := (tabS fn).2 || (fn == 43)
abbrev c_table : Ctr O0 := ⟨[.val tI], [.val tI, .val .bool], fun (x : Int × Unit) => some (((tabS x.1).1, (tabS x.1).2, ()), ((), ()))⟩
abbrev c_does : Ctr O0 := ⟨[.val tI], [.val .bool, .val .bool], fun (x : Int × Unit) => some (((doesS x.1).1, (doesS x.1).2, ()), ((), ()))⟩
abbrev c_writes : Ctr O0 := ⟨[.val tI], [.val .bool], fun (x : Int × Unit) => some (((doesS x.1).2, ()), ((), ()))⟩
abbrev c_known : Ctr O0 := ⟨[.val tI], [.val .bool], fun (x : Int × Unit) => some ((knownS x.1, ()), ((), ()))⟩
abbrev c_most : Ctr O0 := ⟨[.val tI], [.val tI, .val tI], fun (x : Int × Unit) => some (((mostS x.1).1, (mostS x.1).2, ()), ((), ()))⟩
end Go.BB
namespace Go.BB
open Go
abbrev Key := Int × Int
abbrev Cel := (Int × Int) × Int
abbrev Spn := Int × Int × Int
def keyLt (a b : Key) : Bool := decide (a.1 < b.1) || (decide (a.1 = b.1) && decide (a.2 < b.2))
def bufS : List Cel → Bool
 | [] => true
 | [_] => true
 | a :: b :: l => keyLt a.1 b.1 && bufS (b :: l)
def cntK : List Cel → Key → Nat
 | [], _ => 0
 | c :: l, k => if keyLt c.1 k then cntK l k + 1 else 0
def hasK (l : List Cel) (k : Key) : Bool := decide (cntK l k < l.length) && decide ((l.getD (cntK l k) ((0, 0), 0)).1 = k)
def putK (l : List Cel) (c : Cel) : List Cel := l.take (cntK l c.1) ++ c :: l.drop (if hasK l c.1 then cntK l c.1 + 1 else cntK l c.1)
def getK (l : List Cel) (k : Key) : Int × Bool := if hasK l k then ((l.getD (cntK l k) ((0, 0), 0)).2, true) else (0, false)
def layFrom (t a : Int) : List Int → List Cel
 | [] => []
 | w :: ws => ((t, a), w) :: layFrom t (a + 1) ws
def spanR (s : Spn) : Bool := decide (0 ≤ s.1) && (decide (s.1 < 4) && (decide (0 ≤ s.2.1) && (decide (s.2.2 ≤ 65536) && decide (s.2.1 < s.2.2))))
def keyS (k : Int) : Key := (k % 4, if digitS k 64 16 = 0 then 65535 - digitS k 4 16 else digitS k 4 16)
def cellS (k : Int) : Cel := (keyS k, if k % 4 < 2 then digitS k 1024 65536 % 2 else digitS k 1024 65536)
def cellsS (ks : List Int) : List Cel := (ks.take 20).foldl (fun l k => putK l (cellS k)) []
abbrev c_bfind : Ctr O0 := ⟨[.val (.slice tCell), .val tKey], [.val tI, .val .bool], fun (x : List Cel × Key × Unit) => grd (lenOk x.1 && bufS x.1) ((((cntK x.1 x.2.1 : Nat) : Int), hasK x.1 x.2.1, ()), ((), (), ()))⟩
abbrev c_rbfind := c_bfind
abbrev c_put : Ctr O0 := ⟨[.val (.slice tCell), .val tCell], [.own tCell], fun (x : List Cel × Cel × Unit) => grd (lenOk x.1 && bufS x.1) ((putK x.1 x.2.1, ()), ((), (), ()))⟩
abbrev c_rput := c_put
abbrev c_bget : Ctr O0 := ⟨[.val (.slice tCell), .val tKey], [.val tW, .val .bool], fun (x : List Cel × Key × Unit) => grd (lenOk x.1 && bufS x.1) (((getK x.1 x.2.1).1, (getK x.1 x.2.1).2, ()), ((), (), ()))⟩
abbrev c_rbget := c_bget
abbrev c_lay : Ctr O0 := ⟨[.val tKey, .val (.slice tW)], [.own tCell], fun (x : Key × List Int × Unit) => grd (lenOk x.2.1 && (decide (-9223372036854775808 ≤ x.1.2) && decide (x.1.2 ≤ 9223372036853775807))) ((layFrom x.1.1 x.1.2 x.2.1, ()), ((), (), ()))⟩
abbrev c_rspanRight : Ctr O0 := ⟨[.val tSpan], [.val .bool], fun (x : Spn × Unit) => some ((spanR x.1, ()), ((), ()))⟩
abbrev c_spanRight := c_rspanRight
abbrev c_rless : Ctr O0 := ⟨[.val tKey, .val tKey], [.val .bool], fun (x : Key × Key × Unit) => some ((keyLt x.1 x.2.1, ()), ((), (), ()))⟩
abbrev c_key : Ctr O0 := ⟨[.val tI], [.val tKey], fun (x : Int × Unit) => some ((keyS x.1, ()), ((), ()))⟩
abbrev c_cell : Ctr O0 := ⟨[.val tI], [.val tCell], fun (x : Int × Unit) => some ((cellS x.1, ()), ((), ()))⟩
end Go.BB
namespace Go.BB
open Go
abbrev Ver := Int × Int
abbrev Chs := List (Key × List Ver)
abbrev eqK : Key → Key → Bool := eqD tKey
def keyR (k : Key) : Bool := decide (0 ≤ k.1) && (decide (k.1 < 4) && (decide (0 ≤ k.2) && decide (k.2 < 65536)))
abbrev Sto := Int × Int × Int × Chs × Unit
def chsLen (m : Chs) : Nat := (m.map fun p => p.2.length).sum
abbrev c_ckey : Ctr O0 := ⟨[.val tKey], [.val .bool], fun (x : Key × Unit) => some ((keyR x.1, ()), ((), ()))⟩
end Go.BB
namespace Go.BB
open Go
abbrev Row := Key × List Ver
abbrev Ref := Int × Int × List Row × Unit
def srtR : List Row → Bool
 | [] => true
 | [_] => true
 | a :: b :: l => keyLt a.1 b.1 && srtR (b :: l)
end Go.BB
namespace Go.BB
open Go
abbrev AskT := Int × Int × Int × Int × Int × Int × List Bool × List Int × Int × Int × Int × Int
abbrev ObjT := Int × ByteArray
abbrev TellT := Int × Int × List Bool × List Int × Int × Int × Int × Int × Int × Int × Int × Bool × Int × List ObjT
abbrev StepT := AskT × TellT
abbrev Deed := Bool × Int × List StepT × List Cel
abbrev Regs := List (Key × Int)
def lateS (d : Deed) : Int := if d.1 then 0 else 1
def cmp3 (a b : Int) : Int := if a < b then -1 else if a > b then 1 else 0
def firstNZ : List Int → Int
 | [] => 0
 | a :: l => if a ≠ 0 then a else firstNZ l
def deedCmp (a b : Deed) : Int := if cmp3 a.2.1 b.2.1 ≠ 0 then cmp3 a.2.1 b.2.1 else cmp3 (lateS a) (lateS b)
def stepOk (s : StepT) : Bool := lenOk s.1.2.2.2.2.2.2.1 && (lenOk s.1.2.2.2.2.2.2.2.1 && (lenOk s.2.2.2.1 && (lenOk s.2.2.2.2.1 && lenOk s.2.2.2.2.2.2.2.2.2.2.2.2.2.2)))
def deedOk (d : Deed) : Bool := lenOk d.2.2.1 && (lenOk d.2.2.2 && d.2.2.1.all stepOk)
def insD (x : Deed) : List Deed → List Deed
 | [] => [x]
 | a :: r => if deedCmp x a < 0 then a :: insD x r else x :: a :: r
def sortR (l : List Deed) : List Deed := l.foldl (fun r x => insD x r) []
def sortD (l : List Deed) : List Deed := (sortR l).reverse
def sortSeg (l : List Deed) (a b : Int) : List Deed := l.take a.toNat ++ (sortD ((l.drop a.toNat).take (b - a).toNat) ++ l.drop b.toNat)
def setF (m : Regs) (l : List Cel) : Regs := l.foldl (fun m c => if keyR c.1 then mset eqK m c.1 c.2 else m) m
def getF (m : Regs) (k : Key) : Int := mgetD eqK m k 0
abbrev c_late : Ctr O0 := ⟨[.val tDeed], [.val tI], fun (x : Deed × Unit) => some ((lateS x.1, ()), ((), ()))⟩
abbrev c_isNaNU : Ctr O0 := ⟨[.val tU], [.val .bool], fun (_ : Int × Unit) => some ((false, ()), ((), ()))⟩
abbrev c_isNaNI : Ctr O0 := ⟨[.val tI], [.val .bool], fun (_ : Int × Unit) => some ((false, ()), ((), ()))⟩
abbrev c_cmpU : Ctr O0 := ⟨[.val tU, .val tU], [.val tI], fun (x : Int × Int × Unit) => some ((cmp3 x.1 x.2.1, ()), ((), (), ()))⟩
abbrev c_cmpI : Ctr O0 := ⟨[.val tI, .val tI], [.val tI], fun (x : Int × Int × Unit) => some ((cmp3 x.1 x.2.1, ()), ((), (), ()))⟩
abbrev c_cmpOr : Ctr O0 := ⟨[.val (.slice tI)], [.val tI], fun (x : List Int × Unit) => grd (lenOk x.1) ((firstNZ x.1, ()), ((), ()))⟩
abbrev c_ordLess : Ctr O0 := ⟨[.val tDeed, .val tDeed], [.val tI], fun (x : Deed × Deed × Unit) => some ((deedCmp x.1 x.2.1, ()), ((), (), ()))⟩
abbrev c_cloneSteps : Ctr O0 := ⟨[.val (.slice tStep)], [.own tStep], fun (x : List StepT × Unit) => grd (decide (x.1.length < 1000000)) ((x.1, ()), ((), ()))⟩
abbrev c_cloneObjs : Ctr O0 := ⟨[.val (.slice tObj)], [.own tObj], fun (x : List ObjT × Unit) => grd (decide (x.1.length < 1000000)) ((x.1, ()), ((), ()))⟩
abbrev c_own : Ctr O0 := ⟨[.val tDeed], [.val tDeed], fun (x : Deed × Unit) => grd (deedOk x.1) ((x.1, ()), ((), ()))⟩
abbrev c_insSort (g : Nat) : Ctr O0 := ⟨[.row tDeed, .val tI, .val tI, .fn g], [], fun (x : (List Deed × Nat) × Int × Int × Unit × Unit) => grd (decide (x.1.2 = x.1.1.length) && (decide (0 ≤ x.2.1) && (decide (x.2.1 ≤ x.2.2.1) && (decide (x.2.2.1 ≤ x.1.2) && decide (x.1.2 ≤ 1000))))) ((), (sortSeg x.1.1 x.2.1 x.2.2.1, (), (), (), ()))⟩
abbrev c_symMerge (g : Nat) : Ctr O0 := ⟨[.row tDeed, .val tI, .val tI, .val tI, .fn g], [], fun _ => none⟩
abbrev c_stable (g : Nat) : Ctr O0 := ⟨[.row tDeed, .val tI, .fn g], [], fun (x : (List Deed × Nat) × Int × Unit × Unit) => grd (decide (x.1.2 = x.1.1.length) && (decide (x.2.1 = x.1.2) && decide (x.1.2 ≤ 20))) ((), (sortD x.1.1, (), (), ()))⟩
abbrev c_sortStable (g : Nat) : Ctr O0 := ⟨[.row tDeed, .fn g], [], fun (x : (List Deed × Nat) × Unit × Unit) => grd (decide (x.1.2 = x.1.1.length) && decide (x.1.2 ≤ 20)) ((), (sortD x.1.1, (), ()))⟩
abbrev c_forder : Ctr O0 := ⟨[.val (.slice tDeed)], [.own tDeed], fun (x : List Deed × Unit) => grd (decide (x.1.length ≤ 20) && x.1.all deedOk) ((sortD x.1, ()), ((), ()))⟩
abbrev c_fnew : Ctr O0 := ⟨[], [.box shFile], fun (_ : Unit) => some (((([] : Regs), ()), ()), ())⟩
abbrev c_fset : Ctr O0 := ⟨[.box shFile, .val (.slice tCell)], [], fun (x : (Regs × Unit) × List Cel × Unit) => grd (lenOk x.2.1) ((), ((setF x.1.1 x.2.1, ()), (), ()))⟩
abbrev c_fget : Ctr O0 := ⟨[.box shFile, .val tKey], [.val tW], fun (x : (Regs × Unit) × Key × Unit) => some ((getF x.1.1 x.2.1, ()), ((x.1.1, ()), (), ()))⟩
abbrev c_awake27 := c_awake
end Go.BB
namespace Go.BB
open Go
abbrev aFn (a : AskT) : Int := a.1
abbrev aAt (a : AskT) : Int := a.2.1
abbrev aN (a : AskT) : Int := a.2.2.1
abbrev aVal (a : AskT) : Int := a.2.2.2.1
abbrev aAnd (a : AskT) : Int := a.2.2.2.2.1
abbrev aOr (a : AskT) : Int := a.2.2.2.2.2.1
abbrev aBits (a : AskT) : List Bool := a.2.2.2.2.2.2.1
abbrev aWords (a : AskT) : List Int := a.2.2.2.2.2.2.2.1
abbrev aRAt (a : AskT) : Int := a.2.2.2.2.2.2.2.2.1
abbrev aRN (a : AskT) : Int := a.2.2.2.2.2.2.2.2.2.1
abbrev aCode (a : AskT) : Int := a.2.2.2.2.2.2.2.2.2.2.1
abbrev aObj (a : AskT) : Int := a.2.2.2.2.2.2.2.2.2.2.2
def placeN (n : Int) : Bool := decide (0 ≤ n) && decide (n ≤ 65535)
def byteN (n : Int) : Bool := decide (0 ≤ n) && decide (n ≤ 255)
def inN (n lo hi : Int) : Bool := decide (lo ≤ n) && decide (n ≤ hi)
def manyF (f : Int) : Bool := f == 15 || (f == 16 || f == 23)
def oneF (f : Int) : Bool := f == 5 || (f == 6 || f == 22)
def plainA (a : AskT) : Bool :=
 (inN (aFn a) 1 4 || (manyF (aFn a) || (oneF (aFn a) || aAt a == 0))) && ((inN (aFn a) 1 4 || (manyF (aFn a) || aN a == 0)) && ((aFn a == 5 || (aFn a == 6 || aVal a == 0)) && ((aFn a == 22 || (aAnd a == 0 && aOr a == 0)) &&
  ((aFn a == 15 || decide ((aBits a).length = 0)) && ((aFn a == 16 || (aFn a == 23 || decide ((aWords a).length = 0))) && ((aFn a == 23 || (aRAt a == 0 && aRN a == 0)) && (aFn a == 43 || (aCode a == 0 && aObj a == 0))))))))
def sizeA (a : AskT) : Bool :=
 if aFn a = 1 ∨ aFn a = 2 then inN (aN a) 1 2000
 else if aFn a = 3 ∨ aFn a = 4 then inN (aN a) 1 125
 else if aFn a = 5 then decide (aVal a ≤ 1)
 else if aFn a = 15 then decide (1 ≤ aN a) && (decide (aN a ≤ 1968) && (((aBits a).length : Int) == aN a))
 else if aFn a = 16 then decide (1 ≤ aN a) && (decide (aN a ≤ 123) && (((aWords a).length : Int) == aN a))
 else if aFn a = 23 then decide (1 ≤ aN a) && (decide (aN a ≤ 121) && ((((aWords a).length : Int) == aN a) && (decide (1 ≤ aRN a) && decide (aRN a ≤ 125))))
 else if aFn a = 43 then decide (1 ≤ aCode a) && (decide (aCode a ≤ 4) && byteN (aObj a))
 else true
def askOk (a : AskT) : Bool := knownS (aFn a) && (plainA a && (placeN (aAt a) && (placeN (aRAt a) && sizeA a)))
def spansA (a : AskT) : List Spn × List Spn :=
 if askOk a = false then ([], [])
 else if aFn a = 1 ∨ aFn a = 2 ∨ aFn a = 3 ∨ aFn a = 4 then ([((tabS (aFn a)).1, aAt a, aAt a + aN a)], [])
 else if aFn a = 5 ∨ aFn a = 6 ∨ aFn a = 22 then ([], [((tabS (aFn a)).1, aAt a, aAt a + 1)])
 else if aFn a = 15 ∨ aFn a = 16 then ([], [((tabS (aFn a)).1, aAt a, aAt a + aN a)])
 else if aFn a = 23 then ([((tabS (aFn a)).1, aRAt a, aRAt a + aRN a)], [((tabS (aFn a)).1, aAt a, aAt a + aN a)])
 else ([], [])
def tell0 : TellT := (0, 0, [], [], 0, 0, 0, 0, 0, 0, 0, false, 0, [])
def echoA (a : AskT) : TellT :=
 if askOk a = false then tell0
 else if aFn a = 5 ∨ aFn a = 6 then (aFn a, 0, [], [], aAt a, 0, aVal a, 0, 0, 0, 0, false, 0, [])
 else if aFn a = 22 then (22, 0, [], [], aAt a, 0, 0, aAnd a, aOr a, 0, 0, false, 0, [])
 else if aFn a = 15 ∨ aFn a = 16 then (aFn a, 0, [], [], aAt a, aN a, 0, 0, 0, 0, 0, false, 0, [])
 else tell0
def bitN (b : Bool) : Int := if b then 1 else 0
def maskN (was and or : Int) : Int := IntKind.u16.wrap ((BitVec.ofInt IntKind.u16.bits (IntKind.u16.wrap ((BitVec.ofInt IntKind.u16.bits was &&& BitVec.ofInt IntKind.u16.bits and).toNat)) ||| BitVec.ofInt IntKind.u16.bits (IntKind.u16.wrap ((BitVec.ofInt IntKind.u16.bits or &&& BitVec.ofInt IntKind.u16.bits (IntKind.u16.wrap (65535 - and))).toNat))).toNat)
def cellsA (a : AskT) (was : Int) : List Cel :=
 if askOk a = false then []
 else if aFn a = 5 ∨ aFn a = 6 then layFrom (tabS (aFn a)).1 (aAt a) [aVal a]
 else if aFn a = 15 then layFrom (tabS (aFn a)).1 (aAt a) ((aBits a).map bitN)
 else if aFn a = 16 ∨ aFn a = 23 then layFrom (tabS (aFn a)).1 (aAt a) (aWords a)
 else if aFn a = 22 then layFrom (tabS (aFn a)).1 (aAt a) [maskN was (aAnd a) (aOr a)]
 else []
def shownA (a : AskT) (l : List Int) : TellT :=
 if aFn a = 1 ∨ aFn a = 2 then (aFn a, 0, l.map (fun v => v != 0), [], 0, 0, 0, 0, 0, 0, 0, false, 0, [])
 else (aFn a, 0, [], l, 0, 0, 0, 0, 0, 0, 0, false, 0, [])
def setR (m : List Cel) (l : List Cel) : List Cel := l.foldl (fun m c => if keyR c.1 then putK m c else m) m
def valsR (m : List Cel) (s : Spn) : List Int := (List.range (s.2.2 - s.2.1).toNat).map fun (i : Nat) => (getK m (s.1, s.2.1 + (i : Int))).1
def doR (m : List Cel) (a : AskT) : (TellT × Bool) × List Cel :=
 if askOk a = false ∨ aFn a = 43 ∨ (spansA a).1.any (fun s => !spanR s) ∨ (spansA a).2.any (fun s => !spanR s) then ((tell0, false), m)
 else match (spansA a).1 with
  | [] => ((echoA a, true), setR m (cellsA a (getK m ((tabS (aFn a)).1, aAt a)).1))
  | s :: _ => ((shownA a (valsR (setR m (cellsA a (getK m ((tabS (aFn a)).1, aAt a)).1)) s), true), setR m (cellsA a (getK m ((tabS (aFn a)).1, aAt a)).1))
abbrev shRFile : Sh := .cons (.own tCell) .unit
def askLen (a : AskT) : Bool := lenOk (aBits a) && lenOk (aWords a)
abbrev c_r1Known := c_known
abbrev c_r1Table := c_table
abbrev c_r1Most := c_most
abbrev c_r5plain : Ctr O0 := ⟨[.val tAsk], [.val .bool], fun (x : AskT × Unit) => grd (knownS x.1.1) ((plainA x.1, ()), ((), ()))⟩
abbrev c_r5place : Ctr O0 := ⟨[.val tI], [.val .bool], fun (x : Int × Unit) => some ((placeN x.1, ()), ((), ()))⟩
abbrev c_r5byte : Ctr O0 := ⟨[.val tI], [.val .bool], fun (x : Int × Unit) => some ((byteN x.1, ()), ((), ()))⟩
abbrev c_r5Right : Ctr O0 := ⟨[.val tAsk], [.val .bool], fun (x : AskT × Unit) => some ((askOk x.1, ()), ((), ()))⟩
abbrev c_r5Spans : Ctr O0 := ⟨[.val tAsk], [.val (.slice tSpan), .val (.slice tSpan)], fun (x : AskT × Unit) => some (((spansA x.1).1, (spansA x.1).2, ()), ((), ()))⟩
abbrev c_r5Echo : Ctr O0 := ⟨[.val tAsk], [.val tTell], fun (x : AskT × Unit) => some ((echoA x.1, ()), ((), ()))⟩
abbrev c_rlay := c_lay
abbrev c_r21Cells : Ctr O0 := ⟨[.val tAsk, .val tW], [.own tCell], fun (x : AskT × Int × Unit) => grd (askLen x.1) ((cellsA x.1 x.2.1, ()), ((), (), ()))⟩
abbrev c_shown : Ctr O0 := ⟨[.val tAsk, .val (.slice tW)], [.val tTell], fun (x : AskT × List Int × Unit) => grd (lenOk x.2.1) ((shownA x.1 x.2.1, ()), ((), (), ()))⟩
abbrev c_rfget : Ctr O0 := ⟨[.box shRFile, .val tKey], [.val tW], fun (x : (List Cel × Unit) × Key × Unit) => grd (lenOk x.1.1 && bufS x.1.1) (((getK x.1.1 x.2.1).1, ()), ((x.1.1, ()), (), ()))⟩
abbrev c_rfset : Ctr O0 := ⟨[.box shRFile, .val (.slice tCell)], [], fun (x : (List Cel × Unit) × List Cel × Unit) => grd (decide (x.1.1.length ≤ 500000) && (bufS x.1.1 && decide (x.2.1.length ≤ 100000))) ((), ((setR x.1.1 x.2.1, ()), (), ()))⟩
abbrev c_rfdo : Ctr O0 := ⟨[.box shRFile, .val tAsk], [.val tTell, .val .bool], fun (x : (List Cel × Unit) × AskT × Unit) => grd (decide (x.1.1.length ≤ 400000) && (bufS x.1.1 && (askLen x.2.1 && (decide ((aBits x.2.1).length ≤ 100000) && decide ((aWords x.2.1).length ≤ 100000))))) (((doR x.1.1 x.2.1).1.1, (doR x.1.1 x.2.1).1.2, ()), (((doR x.1.1 x.2.1).2, ()), (), ()))⟩
end Go.BB
namespace Go.BB
open Go
def wordsS (k n : Int) : List Int := (List.range n.toNat).map fun (i : Nat) => IntKind.u16.wrap (k % 60000 + (i : Int))
def bitsS (v n : Int) : List Bool := (List.range n.toNat).map fun (i : Nat) => (v % (7 + (i : Int))).tmod 2 == 1
def ask0 (f at1 n v an o : Int) (bs : List Bool) (ws : List Int) (ra rn c ob : Int) : AskT := (f, at1, n, v, an, o, bs, ws, ra, rn, c, ob)
def askS (k v : Int) : AskT :=
 let at1 := if digitS k 3840 12 = 0 then digitS k 46080 65536 else digitS k 16 40
 let n := 1 + digitS k 640 6
 if k % 16 = 0 then ask0 1 at1 n 0 0 0 [] [] 0 0 0 0
 else if k % 16 = 1 then ask0 2 at1 n 0 0 0 [] [] 0 0 0 0
 else if k % 16 = 2 ∨ k % 16 = 3 ∨ k % 16 = 4 then ask0 3 at1 n 0 0 0 [] [] 0 0 0 0
 else if k % 16 = 5 then ask0 4 at1 n 0 0 0 [] [] 0 0 0 0
 else if k % 16 = 6 then ask0 5 at1 0 (v % 2) 0 0 [] [] 0 0 0 0
 else if k % 16 = 7 ∨ k % 16 = 8 ∨ k % 16 = 9 then ask0 6 at1 0 (v % 60000) 0 0 [] [] 0 0 0 0
 else if k % 16 = 10 then (if digitS v 64 3 = 0 then ask0 15 (digitS k 16 20) (14 + n) 0 0 0 (bitsS v (14 + n)) [] 0 0 0 0 else ask0 15 at1 n 0 0 0 (bitsS v n) [] 0 0 0 0)
 else if k % 16 = 11 ∨ k % 16 = 12 then ask0 16 at1 n 0 0 0 [] (wordsS v n) 0 0 0 0
 else if k % 16 = 13 then ask0 22 at1 0 0 (v % 65536) (digitS v 65536 65536) [] [] 0 0 0 0
 else if k % 16 = 14 then ask0 23 at1 n 0 0 0 [] (wordsS v n) (v % 40) (1 + digitS v 40 6) 0 0
 else ask0 43 0 0 0 0 0 [] [] 0 0 (1 + v % 4) (digitS v 4 5)
def stepD (bs : List Int) (i k : Nat) (m : List Cel) : StepT × List Cel :=
 let v := atS bs ((i : Int) + (k : Int))
 let a := askS (digitS v (1 + (k : Int)) 1099511627776) v
 let r := doR m a
 if r.1.2 then ((a, r.1.1), r.2)
 else
  let b := ask0 3 1 2 0 0 0 [] [] 0 0 0 0
  ((b, (doR r.2 b).1.1), (doR r.2 b).2)
def stepsD (bs : List Int) (i : Nat) (m : List Cel) : Nat → List StepT × List Cel
 | 0 => ([], m)
 | k + 1 => let p := stepsD bs i m k; let q := stepD bs i k p.2; (p.1 ++ [q.1], q.2)
def fieldD (as1 bs : List Int) (i : Nat) : List Cel := if digitS (as1.getD i 0) 48 4 = 0 then cellsS ((bs.drop (min i bs.length)).take (min (i + 2) bs.length - min i bs.length)) else []
def deedD (as1 bs : List Int) (right : Bool) (i : Nat) (m : List Cel) : Deed × List Cel :=
 let p := stepsD bs i m (digitS (as1.getD i 0) 12 4).toNat
 let f := fieldD as1 bs i
 ((if right then true else digitS (as1.getD i 0) 6 2 == 0, if right then (i : Int) + 1 else as1.getD i 0 % 6, p.1, f), setR p.2 f)
def deedsD (as1 bs : List Int) (right : Bool) : Nat → List Deed × List Cel
 | 0 => ([], [])
 | i + 1 => let p := deedsD as1 bs right i; let q := deedD as1 bs right i p.2; (p.1 ++ [q.1], q.2)
def deedsS (as1 bs : List Int) (right : Bool) : List Deed := (deedsD as1 bs right (min as1.length 20)).1
abbrev c_words : Ctr O0 := ⟨[.val tI, .val tI], [.own tW], fun (x : Int × Int × Unit) => grd (decide (x.2.1 ≤ 1000)) ((wordsS x.1 x.2.1, ()), ((), (), ()))⟩
abbrev c_ask : Ctr O0 := ⟨[.val tI, .val tI], [.val tAsk], fun (x : Int × Int × Unit) => some ((askS x.1 x.2.1, ()), ((), (), ()))⟩
abbrev c_cellsV : Ctr O0 := ⟨[.val (.slice tI)], [.val (.slice tCell)], fun (x : List Int × Unit) => some ((cellsS x.1, ()), ((), ()))⟩
end Go.BB
namespace Go.BB
open Go
set_option synthInstance.maxSize 100000
set_option synthInstance.maxHeartbeats 0
instance decObj : DecidableEq ObjT := inferInstance
instance decA1 : DecidableEq (List Bool × List Int × Int × Int × Int × Int) := inferInstance
instance decAsk : DecidableEq AskT := inferInstance
instance decT1 : DecidableEq (Int × Int × Int × Int × Int × Bool × Int × List ObjT) := inferInstance
instance decTell : DecidableEq TellT := inferInstance
instance decStep : DecidableEq StepT := inferInstance
instance decDeed : DecidableEq Deed := inferInstance
def aheadB (a b : Deed) : Bool := decide (a.2.1 < b.2.1) || (a.2.1 == b.2.1 && (a.1 || !b.1))
abbrev c_rahead : Ctr O0 := ⟨[.val tDeed, .val tDeed], [.val .bool], fun (x : Deed × Deed × Unit) => some ((aheadB x.1 x.2.1, ()), ((), (), ()))⟩
abbrev c_rorder : Ctr O0 := ⟨[.val (.slice tDeed)], [.own tDeed], fun (x : List Deed × Unit) => grd (decide (x.1.length ≤ 1000)) ((sortD x.1, ()), ((), ()))⟩
abbrev c_r5sameBits : Ctr O0 := ⟨[.val (.slice .bool), .val (.slice .bool)], [.val .bool], fun (x : List Bool × List Bool × Unit) => grd (lenOk x.1) ((sameS x.1 x.2.1, ()), ((), (), ()))⟩
abbrev c_r5sameWords : Ctr O0 := ⟨[.val (.slice tW), .val (.slice tW)], [.val .bool], fun (x : List Int × List Int × Unit) => grd (lenOk x.1) ((sameS x.1 x.2.1, ()), ((), (), ()))⟩
def sameTellB (a b : TellT) : Bool := decide (a = b)
def tellLen (t : TellT) : Bool := lenOk t.2.2.1 && (lenOk t.2.2.2.1 && lenOk t.2.2.2.2.2.2.2.2.2.2.2.2.2)
abbrev c_sameTell : Ctr O0 := ⟨[.val tTell, .val tTell], [.val .bool], fun (x : TellT × TellT × Unit) => grd (tellLen x.1) ((sameTellB x.1 x.2.1, ()), ((), (), ()))⟩
end Go.BB
namespace Go.BB
open Go
abbrev tA11 : Ty := .pair tI (.pair tI (.pair tI (.pair tI (.pair tI (.pair tI (.pair tI (.pair tI (.pair tI (.pair tI (.pair tI .unit))))))))))
abbrev Nums := Int × Int × Int × Int × Int × Int × Int × Int × Int × Int × Int × Unit
def isW (n : Int) : Bool := decide (0 ≤ n) && decide (n ≤ 65535)
def askW (a : AskT) : Bool := isW (aVal a) && (isW (aAnd a) && isW (aOr a))
def numsA (a : AskT) : Nums := (aAt a, aN a, IntKind.i64.wrap (aVal a), IntKind.i64.wrap (aAnd a), IntKind.i64.wrap (aOr a), aRAt a, aRN a, aCode a, aObj a, ((aBits a).length : Int), ((aWords a).length : Int), ())
def onlyA (a : AskT) : AskT :=
 if aFn a = 23 then (aFn a, aAt a, aN a, 0, 0, 0, [], aWords a, aRAt a, aRN a, 0, 0)
 else if aFn a = 16 then (aFn a, aAt a, aN a, 0, 0, 0, [], aWords a, 0, 0, 0, 0)
 else if aFn a = 1 ∨ aFn a = 2 ∨ aFn a = 3 ∨ aFn a = 4 then (aFn a, aAt a, aN a, 0, 0, 0, [], [], 0, 0, 0, 0)
 else if aFn a = 15 then (aFn a, aAt a, aN a, 0, 0, 0, aBits a, [], 0, 0, 0, 0)
 else if aFn a = 5 ∨ aFn a = 6 then (aFn a, aAt a, 0, aVal a, 0, 0, [], [], 0, 0, 0, 0)
 else if aFn a = 22 then (aFn a, aAt a, 0, 0, aAnd a, aOr a, [], [], 0, 0, 0, 0)
 else if aFn a = 43 then (aFn a, 0, 0, 0, 0, 0, [], [], 0, 0, aCode a, aObj a)
 else (aFn a, 0, 0, 0, 0, 0, [], [], 0, 0, 0, 0)
def countsN (n most : Int) : Bool := decide (1 ≤ n) && decide (n ≤ most)
def shownT (f : Int) (l : List Int) : TellT :=
 if f = 1 ∨ f = 2 then (f, 0, l.map (fun v => v != 0), [], 0, 0, 0, 0, 0, 0, 0, false, 0, [])
 else (f, 0, [], l, 0, 0, 0, 0, 0, 0, 0, false, 0, [])
def beyond (l : List Spn) : Bool := l.any fun s => !spanR s
def idxS : List Spn → Int → Int
 | [], _ => -1
 | s :: l, n => if spanR s then idxS l (n + 1) else n
def valsF (m : Regs) (s : Spn) : List Int := (List.range (s.2.2 - s.2.1).toNat).map fun (i : Nat) => getF m (s.1, s.2.1 + (i : Int))
def doF (m : Regs) (a : AskT) : (TellT × Bool) × Regs :=
 if ((spansA a).1 ++ (spansA a).2).length = 0 ∨ beyond ((spansA a).1 ++ (spansA a).2) = true then ((tell0, false), m)
 else match (spansA a).1 with
  | [] => ((echoA a, true), setF m (cellsA a (getF m (2, aAt a))))
  | s :: _ => ((shownT (aFn a) (valsF (setF m (cellsA a (getF m (2, aAt a)))) s), true), setF m (cellsA a (getF m (2, aAt a))))
abbrev c_askNums : Ctr O0 := ⟨[.val tAsk], [.val tA11], fun (x : AskT × Unit) => some ((numsA x.1, ()), ((), ()))⟩
abbrev c_askOnly : Ctr O0 := ⟨[.val tAsk], [.val tAsk], fun (x : AskT × Unit) => some ((onlyA x.1, ()), ((), ()))⟩
abbrev c_askAddr : Ctr O0 := ⟨[.val tI], [.val .bool], fun (x : Int × Unit) => some ((placeN x.1, ()), ((), ()))⟩
abbrev c_askCounts : Ctr O0 := ⟨[.val tI, .val tI], [.val .bool], fun (x : Int × Int × Unit) => some ((countsN x.1 x.2.1, ()), ((), (), ()))⟩
abbrev c_askRight : Ctr O0 := ⟨[.val tAsk], [.val .bool], fun (x : AskT × Unit) => grd (askW x.1) ((askOk x.1, ()), ((), ()))⟩
abbrev c_askSpans : Ctr O0 := ⟨[.val tAsk], [.val (.slice tSpan), .val (.slice tSpan)], fun (x : AskT × Unit) => grd (askW x.1) (((spansA x.1).1, (spansA x.1).2, ()), ((), ()))⟩
abbrev c_tellEcho : Ctr O0 := ⟨[.val tAsk], [.val tTell], fun (x : AskT × Unit) => grd (askW x.1) ((echoA x.1, ()), ((), ()))⟩
abbrev c_growSp : Ctr O0 := ⟨[.fn 0, .val tI], [.own tSpan], fun (x : Unit × Int × Unit) => grd (decide (0 ≤ x.2.1) && decide (x.2.1 ≤ 1000)) (([], ()), ((), (), ()))⟩
abbrev c_concatSp : Ctr O0 := ⟨[.val (.slice (.slice tSpan))], [.own tSpan], fun (x : List (List Spn) × Unit) => grd (decide (x.1.length ≤ 4) && x.1.all (fun l => decide (l.length ≤ 200))) ((x.1.flatten, ()), ((), ()))⟩
abbrev c_doBeyond : Ctr O0 := ⟨[.val tSpan], [.val .bool], fun (x : Spn × Unit) => some ((!spanR x.1, ()), ((), ()))⟩
abbrev c_indexSp (g : Nat) : Ctr O0 := ⟨[.val (.slice tSpan), .fn g], [.val tI], fun (x : List Spn × Unit × Unit) => grd (lenOk x.1) ((idxS x.1 0, ()), ((), (), ()))⟩
abbrev c_containsSp (g : Nat) : Ctr O0 := ⟨[.val (.slice tSpan), .fn g], [.val .bool], fun (x : List Spn × Unit × Unit) => grd (lenOk x.1) ((beyond x.1, ()), ((), (), ()))⟩
abbrev c_execCells : Ctr O0 := ⟨[.val tAsk, .val tW], [.val (.slice tCell)], fun (x : AskT × Int × Unit) => grd (askLen x.1 && askW x.1) ((cellsA x.1 x.2.1, ()), ((), (), ()))⟩
abbrev c_toldRead : Ctr O0 := ⟨[.val tI, .val (.slice tW)], [.val tTell], fun (x : Int × List Int × Unit) => grd (lenOk x.2.1) ((shownT x.1 x.2.1, ()), ((), (), ()))⟩
abbrev c_fvalues : Ctr O0 := ⟨[.box shFile, .val tSpan], [.own tW], fun (x : (Regs × Unit) × Spn × Unit) => grd (spanR x.2.1) ((valsF x.1.1 x.2.1, ()), ((x.1.1, ()), (), ()))⟩
abbrev c_fdo : Ctr O0 := ⟨[.box shFile, .val tAsk], [.val tTell, .val .bool], fun (x : (Regs × Unit) × AskT × Unit) => grd (askLen x.2.1 && askW x.2.1) (((doF x.1.1 x.2.1).1.1, (doF x.1.1 x.2.1).1.2, ()), (((doF x.1.1 x.2.1).2, ()), (), ()))⟩
end Go.BB
namespace Go.BB
open Go
abbrev PlainT := Int × Int × Int × Int × Int × Int × Int × Int × Int × Int × Bool
def plainT (t : TellT) : PlainT := (t.1, t.2.1, t.2.2.2.2.1, t.2.2.2.2.2.1, t.2.2.2.2.2.2.1, t.2.2.2.2.2.2.2.1, t.2.2.2.2.2.2.2.2.1, t.2.2.2.2.2.2.2.2.2.1, t.2.2.2.2.2.2.2.2.2.2.1, t.2.2.2.2.2.2.2.2.2.2.2.2.1, t.2.2.2.2.2.2.2.2.2.2.2.1)
abbrev c_toldOf : Ctr O0 := ⟨[.val tTell], [.val tPlain], fun (x : TellT × Unit) => some ((plainT x.1, ()), ((), ()))⟩
abbrev c_eqBits : Ctr O0 := ⟨[.val (.slice .bool), .val (.slice .bool)], [.val .bool], fun (x : List Bool × List Bool × Unit) => grd (lenOk x.2.1) ((sameS x.1 x.2.1, ()), ((), (), ()))⟩
abbrev c_eqWords : Ctr O0 := ⟨[.val (.slice tW), .val (.slice tW)], [.val .bool], fun (x : List Int × List Int × Unit) => grd (lenOk x.2.1) ((sameS x.1 x.2.1, ()), ((), (), ()))⟩
abbrev c_eqObjs : Ctr O0 := ⟨[.val (.slice tObj), .val (.slice tObj)], [.val .bool], fun (x : List ObjT × List ObjT × Unit) => grd (lenOk x.2.1) ((sameS x.1 x.2.1, ()), ((), (), ()))⟩
abbrev c_toldSame : Ctr O0 := ⟨[.val tTell, .val tTell], [.val .bool], fun (x : TellT × TellT × Unit) => grd (tellLen x.2.1) ((sameTellB x.1 x.2.1, ()), ((), (), ()))⟩
def stepW (s : StepT) : Bool := askW s.1 && (decide ((aBits s.1).length ≤ 24) && (decide ((aWords s.1).length ≤ 24) && tellLen s.2))
def deedW (d : Deed) : Bool := decide (d.2.2.1.length ≤ 3) && (decide (d.2.2.2.length ≤ 20) && (d.2.2.1.all stepW && deedOk d))
def deedsW (l : List Deed) : Bool := decide (l.length ≤ 20) && l.all deedW
def playF : Regs → List StepT → Bool × Regs
 | m, [] => (true, m)
 | m, s :: l => if (doF m s.1).1.2 && sameTellB (doF m s.1).1.1 s.2 then playF (doF m s.1).2 l else (false, (doF m s.1).2)
def replayF (m : Regs) (d : Deed) : Bool × Regs := if (playF m d.2.2.1).1 then (true, setF (playF m d.2.2.1).2 d.2.2.2) else (false, (playF m d.2.2.1).2)
def replaysF : Regs → List Deed → Nat
 | _, [] => 0
 | m, d :: l => if (replayF m d).1 then replaysF (replayF m d).2 l + 1 else 0
def playR : List Cel → List StepT → Bool × List Cel
 | m, [] => (true, m)
 | m, s :: l => if (doR m s.1).1.2 && sameTellB (doR m s.1).1.1 s.2 then playR (doR m s.1).2 l else (false, (doR m s.1).2)
def replayR (m : List Cel) (d : Deed) : Bool × List Cel := if (playR m d.2.2.1).1 then (true, setR (playR m d.2.2.1).2 d.2.2.2) else (false, (playR m d.2.2.1).2)
def replaysR : List Cel → List Deed → Nat
 | _, [] => 0
 | m, d :: l => if (replayR m d).1 then replaysR (replayR m d).2 l + 1 else 0
abbrev c_freplay : Ctr O0 := ⟨[.box shFile, .val tDeed], [.val .bool], fun (x : (Regs × Unit) × Deed × Unit) => grd (deedW x.2.1) (((replayF x.1.1 x.2.1).1, ()), (((replayF x.1.1 x.2.1).2, ()), (), ()))⟩
abbrev c_freplays : Ctr O0 := ⟨[.val (.slice tDeed)], [.val tI], fun (x : List Deed × Unit) => grd (deedsW x.1) ((((replaysF [] x.1 : Nat) : Int), ()), ((), ()))⟩
abbrev c_rreplays : Ctr O0 := ⟨[.val (.slice tDeed)], [.val tI], fun (x : List Deed × Unit) => grd (deedsW x.1) ((((replaysR [] x.1 : Nat) : Int), ()), ((), ()))⟩
abbrev kDeed : MapK := .deep .bool tU tStep (.slice tCell)
abbrev c_deedsX : Ctr O0 := ⟨[.val (.slice tI), .val (.slice tI), .val .bool], [.obj kDeed, .obj kDeed], fun (x : List Int × List Int × Bool × Unit) => grd (decide (x.1.length ≤ 100) && decide (x.2.1.length ≤ 100)) ((deedsS x.1 x.2.1 x.2.2.1, deedsS x.1 x.2.1 x.2.2.1, ()), ((), (), (), ()))⟩
abbrev dgetD (xs : List Deed) (n : Nat) : List StepT := dget (a := .bool) (b := tU) (e := tStep) (c := .slice tCell) xs n
abbrev dputD (xs : List Deed) (n : Nat) (ys : List StepT) : List Deed := dput (a := .bool) (b := tU) (e := tStep) (c := .slice tCell) xs n ys
end Go.BB
set_option linter.unusedVariables false
namespace Go.BB
open Go Go.Proofs
set_option maxRecDepth 100000
set_option exponentiation.threshold 100000
noncomputable section
abbrev g_lFileReplays : List (Nat × Ctr O0) := [(n_awake27, c_awake27), (n_deedsX, c_deedsX), (n_freplays, c_freplays), (n_rreplays, c_rreplays), (n_forder, c_forder), (n_rorder, c_rorder), (n_within, c_within)]
def lFileReplays_tm : List Tm := []
end
end Go.BB
set_option linter.unusedVariables false
namespace Go.BB
open Go Go.Proofs
set_option maxRecDepth 100000
set_option exponentiation.threshold 100000
noncomputable section
abbrev g_rreplays : List (Nat × Ctr O0) := [(n_rfdo, c_rfdo), (n_sameTell, c_sameTell), (n_rfset, c_rfset)]
def rreplays_tm : List Tm := [[((0 : Nat), none, Sh.val tDeed.slice), ((3 : Nat), none, ((Sh.own (((Ty.int IntKind.i64).pair (Ty.int IntKind.i64)).pair (Ty.int IntKind.u16))).cons Sh.unit).ptr), ((4 : Nat), none, Sh.val (Ty.int IntKind.i64))], [((0 : Nat), none, Sh.val tDeed.slice), ((3 : Nat), none, ((Sh.own (((Ty.int IntKind.i64).pair (Ty.int IntKind.i64)).pair (Ty.int IntKind.u16))).cons Sh.unit).ptr), ((4 : Nat), none, Sh.val (Ty.int IntKind.i64)), ((5 : Nat), none, Sh.val (Ty.int IntKind.i64))]]
end
end Go.BB
set_option linter.unusedVariables false
namespace Go.BB
open Go Go.Proofs
set_option maxRecDepth 100000
set_option exponentiation.threshold 100000
noncomputable section
abbrev g_freplay : List (Nat × Ctr O0) := [(n_fdo, c_fdo), (n_toldSame, c_toldSame), (n_fset, c_fset)]
def freplay_tm : List Tm := [[((0 : Nat), some (0 : Nat), ((Sh.map (MapK.map ((Ty.int IntKind.i64).pair (Ty.int IntKind.i64)) (Ty.int IntKind.u16))).cons Sh.unit).ptr), ((3 : Nat), none, ((Sh.val Ty.bool).cons ((Sh.val (Ty.int IntKind.u64)).cons ((Sh.val ((tAsk).pair (tTell)).slice).cons ((Sh.val (((Ty.int IntKind.i64).pair (Ty.int IntKind.i64)).pair (Ty.int IntKind.u16)).slice).cons Sh.unit)))).ptr), ((10 : Nat), none, Sh.val ((tAsk).pair (tTell)).slice), ((11 : Nat), none, Sh.val (Ty.int IntKind.i64)), ((12 : Nat), none, Sh.val (Ty.int IntKind.i64))]]
abbrev g_freplays : List (Nat × Ctr O0) := [(n_fnew, c_fnew), (n_freplay, c_freplay)]
def freplays_tm : List Tm := [[((0 : Nat), none, Sh.val tDeed.slice), ((3 : Nat), none, ((Sh.map (MapK.map ((Ty.int IntKind.i64).pair (Ty.int IntKind.i64)) (Ty.int IntKind.u16))).cons Sh.unit).ptr), ((7 : Nat), none, Sh.val tDeed.slice), ((8 : Nat), none, Sh.val (Ty.int IntKind.i64)), ((9 : Nat), none, Sh.val (Ty.int IntKind.i64))]]
end
end Go.BB
