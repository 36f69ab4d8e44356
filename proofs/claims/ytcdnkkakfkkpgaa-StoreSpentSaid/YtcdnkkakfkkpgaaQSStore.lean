/- A symbolic machine for the model's code, and what it shows of this seat's functions. No conditions. -/
import Derived.Test.YtcdnkkakfkkpgaaQSBuff
set_option linter.unusedSimpArgs false
set_option linter.unusedVariables false
/-! contracts of stores -/
namespace Go.BB
open Go
abbrev Ver := Int × Int
abbrev Chs := List (Key × List Ver)
abbrev eqK : Key → Key → Bool := eqD tKey
def keyR (k : Key) : Bool := decide (0 ≤ k.1) && (decide (k.1 < 4) && (decide (0 ≤ k.2) && decide (k.2 < 65536)))
def celR (c : Cel) : Bool := keyR c.1 && (decide (c.2 ≤ 1) || !isBits c.1.1)
/-- each may be, and no key stands twice -/
def onceGo : List Key → List Cel → Bool
  | _, [] => true
  | seen, c :: l => celR c && (!(seen.any fun k => decide (k = c.1)) && onceGo (c.1 :: seen) l)
def onceS (l : List Cel) : Bool := onceGo [] l && decide (l ≠ [])
def chnOf (m : Chs) (k : Key) : List Ver := mval m (midx eqK m k)
def laid (m : Chs) (k : Key) (v : Ver) : Chs := mput (ment eqK m k) (midx eqK (ment eqK m k) k) (cat (mval (ment eqK m k) (midx eqK (ment eqK m k) k)) [v])
def laidAll (q : Int) (m : Chs) (l : List Cel) : Chs := l.foldl (fun m c => laid m c.1 (q, c.2)) m
abbrev Sto := Int × Int × Int × Chs × Unit
def chsLen (m : Chs) : Nat := (m.map fun p => p.2.length).sum
/-- what is so of each store -/
def stoOk (s : Sto) : Bool := isU s.1 && (decide (0 ≤ s.2.1) && (decide (s.2.1 ≤ s.2.2.1) && (decide (s.2.2.1 ≤ 1048576) && (decide (s.2.1 ≤ 500000) && (decide ((chsLen s.2.2.2.1 : Int) = s.2.1) && (s.2.2.2.1.all fun p => rightFrom 0 p.2 && decide (newS p.2 ≤ s.1)))))))
def instS (s : Sto) (l : List Cel) : (Int × Int) × Sto :=
  if onceS l = false then ((0, 1), s)
  else if s.1 = 18446744073709551615 then ((0, 8), s)
  else if (l.length : Int) > s.2.2.1 - s.2.1 then ((0, 4), s)
  else ((s.1 + 1, 0), (s.1 + 1, s.2.1 + l.length, s.2.2.1, laidAll (s.1 + 1) s.2.2.2.1 l, ()))
def stNewS (first most : Int) : Sto := (first, 0, min (max most 0) 1048576, [], ())
abbrev c_ckey : Ctr O0 := ⟨[.val tKey], [.val .bool], fun (x : Key × Unit) => some ((keyR x.1, ()), ((), ()))⟩
abbrev c_cright : Ctr O0 := ⟨[.val tCell], [.val .bool], fun (x : Cel × Unit) => some ((celR x.1, ()), ((), ()))⟩
abbrev c_once : Ctr O0 := ⟨[.val (.slice tCell)], [.val .bool], fun (x : List Cel × Unit) => grd (lenOk x.1) ((onceS x.1, ()), ((), ()))⟩
abbrev c_stNew : Ctr O0 := ⟨[.val tU, .val tI], [.box shStore], fun (x : Int × Int × Unit) => some ((stNewS x.1 x.2.1, ()), ((), (), ()))⟩
abbrev c_stLast : Ctr O0 := ⟨[.box shStore], [.val tU], fun (x : Sto × Unit) => some ((x.1.1, ()), (x.1, ()))⟩
abbrev c_stVersions : Ctr O0 := ⟨[.box shStore], [.val tI], fun (x : Sto × Unit) => some ((x.1.2.1, ()), (x.1, ()))⟩
abbrev c_stKeys : Ctr O0 := ⟨[.box shStore], [.val tI], fun (x : Sto × Unit) => some (((x.1.2.2.2.1.length : Int), ()), (x.1, ()))⟩
abbrev c_stRead : Ctr O0 := ⟨[.box shStore, .val tKey, .val tU], [.val tW], fun (x : Sto × Key × Int × Unit) => grd (stoOk x.1) ((atV (chnOf x.1.2.2.2.1 x.2.1) x.2.2.1, ()), (x.1, (), (), ()))⟩
abbrev c_stNewest : Ctr O0 := ⟨[.box shStore, .val tKey], [.val tU], fun (x : Sto × Key × Unit) => grd (stoOk x.1) ((newS (chnOf x.1.2.2.2.1 x.2.1), ()), (x.1, (), ()))⟩
abbrev c_stInstall : Ctr O0 := ⟨[.box shStore, .val (.slice tCell)], [.val tU, .val tI], fun (x : Sto × List Cel × Unit) => grd (stoOk x.1 && lenOk x.2.1) (((instS x.1 x.2.1).1.1, (instS x.1 x.2.1).1.2, ()), ((instS x.1 x.2.1).2, (), ()))⟩

abbrev c_awake17 := c_awake
end Go.BB
