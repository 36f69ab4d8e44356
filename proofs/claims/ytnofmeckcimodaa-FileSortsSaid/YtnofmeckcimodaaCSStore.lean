/- A symbolic machine for the model's code, and what it shows of this seat's functions. No conditions. -/
import Derived.Test.YtnofmeckcimodaaCTyF
set_option linter.unusedVariables false
set_option linter.unusedSimpArgs false
/-! contracts of what lends lists, and holds lists against each other -/
namespace Go.BB
open Go
def lentS {α : Type} (m : α) (l : List α) : List α := l ++ [m, m, m]
def staysS {α : Type} [DecidableEq α] (m : α) (ys : List α) (n : Nat) (l : List α) : Bool := decide (ys = l ++ [m, m, m]) && decide (n = l.length)
def sameS {α : Type} [DecidableEq α] (a b : List α) : Bool := decide (a = b)
/-- a number from 0 to n - 1 -/
abbrev c_within : Ctr O0 := ⟨[.val tI, .val tI], [.val tI], fun (x : Int × Int × Unit) => grd (decide (0 < x.2.1) && decide (x.2.1 < 4611686018427387904)) ((x.1 % x.2.1, ()), ((), (), ()))⟩
def digitS (k d n : Int) : Int := IntKind.i64.wrap (k.tdiv d) % n
abbrev c_digit : Ctr O0 := ⟨[.val tI, .val tI, .val tI], [.val tI], fun (x : Int × Int × Int × Unit) => grd (decide (0 < x.2.1) && (decide (0 < x.2.2.1) && decide (x.2.2.1 < 4611686018427387904))) ((digitS x.1 x.2.1 x.2.2.1, ()), ((), (), (), ()))⟩
def atS (ks : List Int) (i : Int) : Int := if 0 ≤ i then ks.getD i.toNat 0 else 0
abbrev c_ati : Ctr O0 := ⟨[.val (.slice tI), .val tI], [.val tI], fun (x : List Int × Int × Unit) => some ((atS x.1 x.2.1, ()), ((), (), ()))⟩
abbrev c_awake : Ctr O0 := ⟨[], [.val .bool], fun _ => some ((true, ()), ())⟩
abbrev c_awake2 := c_awake
abbrev c_awake16 := c_awake
abbrev c_lentBits : Ctr O0 := ⟨[.val (.slice .bool)], [.sub .bool], fun (x : List Bool × Unit) => grd (decide (x.1.length < 1000000)) (((lentS true x.1, x.1.length), ()), ((), ()))⟩
abbrev c_staysBits : Ctr O0 := ⟨[.row .bool, .val (.slice .bool)], [.val .bool], fun (x : (List Bool × Nat) × List Bool × Unit) => grd (staysS true x.1.1 x.1.2 x.2.1 && decide (x.2.1.length < 1000000)) ((true, ()), (x.1.1, (), ()))⟩
abbrev c_sameBits : Ctr O0 := ⟨[.val (.slice .bool), .val (.slice .bool)], [.val .bool], fun (x : List Bool × List Bool × Unit) => grd (decide (x.1.length < 1000000)) ((sameS x.1 x.2.1, ()), ((), (), ()))⟩
abbrev c_cloneBits : Ctr O0 := ⟨[.val (.slice .bool)], [.own .bool], fun (x : List Bool × Unit) => grd (decide (x.1.length < 1000000)) ((x.1, ()), ((), ()))⟩
abbrev c_lentBytes : Ctr O0 := ⟨[.val (.slice tB)], [.sub tB], fun (x : List Int × Unit) => grd (decide (x.1.length < 1000000)) (((lentS (165 : Int) x.1, x.1.length), ()), ((), ()))⟩
abbrev c_staysBytes : Ctr O0 := ⟨[.row tB, .val (.slice tB)], [.val .bool], fun (x : (List Int × Nat) × List Int × Unit) => grd (staysS (165 : Int) x.1.1 x.1.2 x.2.1 && decide (x.2.1.length < 1000000)) ((true, ()), (x.1.1, (), ()))⟩
abbrev c_sameBytes : Ctr O0 := ⟨[.val (.slice tB), .val (.slice tB)], [.val .bool], fun (x : List Int × List Int × Unit) => grd (decide (x.1.length < 1000000)) ((sameS x.1 x.2.1, ()), ((), (), ()))⟩
abbrev c_cloneBytes : Ctr O0 := ⟨[.val (.slice tB)], [.own tB], fun (x : List Int × Unit) => grd (decide (x.1.length < 1000000)) ((x.1, ()), ((), ()))⟩
abbrev c_lentWords : Ctr O0 := ⟨[.val (.slice tW)], [.sub tW], fun (x : List Int × Unit) => grd (decide (x.1.length < 1000000)) (((lentS (42405 : Int) x.1, x.1.length), ()), ((), ()))⟩
abbrev c_staysWords : Ctr O0 := ⟨[.row tW, .val (.slice tW)], [.val .bool], fun (x : (List Int × Nat) × List Int × Unit) => grd (staysS (42405 : Int) x.1.1 x.1.2 x.2.1 && decide (x.2.1.length < 1000000)) ((true, ()), (x.1.1, (), ()))⟩
abbrev c_sameWords : Ctr O0 := ⟨[.val (.slice tW), .val (.slice tW)], [.val .bool], fun (x : List Int × List Int × Unit) => grd (decide (x.1.length < 1000000)) ((sameS x.1 x.2.1, ()), ((), (), ()))⟩
abbrev c_cloneWords : Ctr O0 := ⟨[.val (.slice tW)], [.own tW], fun (x : List Int × Unit) => grd (decide (x.1.length < 1000000)) ((x.1, ()), ((), ()))⟩
abbrev c_lentSpans : Ctr O0 := ⟨[.val (.slice tSpan)], [.sub tSpan], fun (x : List (Int × Int × Int) × Unit) => grd (decide (x.1.length < 1000000)) (((lentS ((7 : Int), (7 : Int), (7 : Int)) x.1, x.1.length), ()), ((), ()))⟩
abbrev c_staysSpans : Ctr O0 := ⟨[.row tSpan, .val (.slice tSpan)], [.val .bool], fun (x : (List (Int × Int × Int) × Nat) × List (Int × Int × Int) × Unit) => grd (staysS ((7 : Int), (7 : Int), (7 : Int)) x.1.1 x.1.2 x.2.1 && decide (x.2.1.length < 1000000)) ((true, ()), (x.1.1, (), ()))⟩
abbrev c_sameSpans : Ctr O0 := ⟨[.val (.slice tSpan), .val (.slice tSpan)], [.val .bool], fun (x : List (Int × Int × Int) × List (Int × Int × Int) × Unit) => grd (decide (x.1.length < 1000000)) ((sameS x.1 x.2.1, ()), ((), (), ()))⟩
abbrev c_cloneSpans : Ctr O0 := ⟨[.val (.slice tSpan)], [.own tSpan], fun (x : List (Int × Int × Int) × Unit) => grd (decide (x.1.length < 1000000)) ((x.1, ()), ((), ()))⟩
abbrev c_lentCells : Ctr O0 := ⟨[.val (.slice tCell)], [.sub tCell], fun (x : List ((Int × Int) × Int) × Unit) => grd (decide (x.1.length < 1000000)) (((lentS (((0 : Int), (0 : Int)), (7 : Int)) x.1, x.1.length), ()), ((), ()))⟩
abbrev c_staysCells : Ctr O0 := ⟨[.row tCell, .val (.slice tCell)], [.val .bool], fun (x : (List ((Int × Int) × Int) × Nat) × List ((Int × Int) × Int) × Unit) => grd (staysS (((0 : Int), (0 : Int)), (7 : Int)) x.1.1 x.1.2 x.2.1 && decide (x.2.1.length < 1000000)) ((true, ()), (x.1.1, (), ()))⟩
abbrev c_sameCells : Ctr O0 := ⟨[.val (.slice tCell), .val (.slice tCell)], [.val .bool], fun (x : List ((Int × Int) × Int) × List ((Int × Int) × Int) × Unit) => grd (decide (x.1.length < 1000000)) ((sameS x.1 x.2.1, ()), ((), (), ()))⟩
abbrev c_cloneCells : Ctr O0 := ⟨[.val (.slice tCell)], [.own tCell], fun (x : List ((Int × Int) × Int) × Unit) => grd (decide (x.1.length < 1000000)) ((x.1, ()), ((), ()))⟩
abbrev c_lentVersions : Ctr O0 := ⟨[.val (.slice tVer)], [.sub tVer], fun (x : List (Int × Int) × Unit) => grd (decide (x.1.length < 1000000)) (((lentS ((7 : Int), (7 : Int)) x.1, x.1.length), ()), ((), ()))⟩
abbrev c_staysVersions : Ctr O0 := ⟨[.row tVer, .val (.slice tVer)], [.val .bool], fun (x : (List (Int × Int) × Nat) × List (Int × Int) × Unit) => grd (staysS ((7 : Int), (7 : Int)) x.1.1 x.1.2 x.2.1 && decide (x.2.1.length < 1000000)) ((true, ()), (x.1.1, (), ()))⟩
abbrev c_sameVersions : Ctr O0 := ⟨[.val (.slice tVer), .val (.slice tVer)], [.val .bool], fun (x : List (Int × Int) × List (Int × Int) × Unit) => grd (decide (x.1.length < 1000000)) ((sameS x.1 x.2.1, ()), ((), (), ()))⟩
abbrev c_cloneVersions : Ctr O0 := ⟨[.val (.slice tVer)], [.own tVer], fun (x : List (Int × Int) × Unit) => grd (decide (x.1.length < 1000000)) ((x.1, ()), ((), ()))⟩
abbrev c_lentObjects : Ctr O0 := ⟨[.val (.slice tObj)], [.sub tObj], fun (x : List (Int × ByteArray) × Unit) => grd (decide (x.1.length < 1000000)) (((lentS ((7 : Int), (⟨#[109]⟩ : ByteArray)) x.1, x.1.length), ()), ((), ()))⟩
abbrev c_staysObjects : Ctr O0 := ⟨[.row tObj, .val (.slice tObj)], [.val .bool], fun (x : (List (Int × ByteArray) × Nat) × List (Int × ByteArray) × Unit) => grd (staysS ((7 : Int), (⟨#[109]⟩ : ByteArray)) x.1.1 x.1.2 x.2.1 && decide (x.2.1.length < 1000000)) ((true, ()), (x.1.1, (), ()))⟩
abbrev c_sameObjects : Ctr O0 := ⟨[.val (.slice tObj), .val (.slice tObj)], [.val .bool], fun (x : List (Int × ByteArray) × List (Int × ByteArray) × Unit) => grd (decide (x.1.length < 1000000)) ((sameS x.1 x.2.1, ()), ((), (), ()))⟩
abbrev c_cloneObjects : Ctr O0 := ⟨[.val (.slice tObj)], [.own tObj], fun (x : List (Int × ByteArray) × Unit) => grd (decide (x.1.length < 1000000)) ((x.1, ()), ((), ()))⟩
abbrev c_sameInts : Ctr O0 := ⟨[.val (.slice tI), .val (.slice tI)], [.val .bool], fun (x : List Int × List Int × Unit) => grd (decide (x.1.length < 1000000)) ((sameS x.1 x.2.1, ()), ((), (), ()))⟩
end Go.BB
/-! contracts of chain -/
namespace Go.BB
open Go
/-- rising numbers, the first one above a -/
def rightFrom (a : Int) : List (Int × Int) → Bool
  | [] => true
  | v :: l => decide (a < v.1) && rightFrom v.1 l
/-- how many stand at most at q -/
def cnt : List (Int × Int) → Int → Nat
  | [], _ => 0
  | v :: l, q => if v.1 ≤ q then cnt l q + 1 else 0
def atV (l : List (Int × Int)) (q : Int) : Int := if cnt l q = 0 then 0 else (l.getD (cnt l q - 1) (0, 0)).2
def newS (l : List (Int × Int)) : Int := if l.length = 0 then 0 else (l.getD (l.length - 1) (0, 0)).1
def addS (l : List (Int × Int)) (v : Int × Int) : List (Int × Int) × Int := if v.1 ≤ newS l then ([], 1) else (l ++ [v], 0)
def trimS (l : List (Int × Int)) (m : Int) : List (Int × Int) := l.drop (cnt l m - 1)
def chainFrom (n : Int) : List Int → List (Int × Int)
  | [] => []
  | k :: ks => (n + 1 + k % 5, digitS k 5 65536) :: chainFrom (n + 1 + k % 5) ks
def chainS (ks : List Int) : List (Int × Int) := chainFrom 0 (ks.take 20)
def lenOk {α : Type} (l : List α) : Bool := decide (l.length < 1000000)
/-- numbers of 64 bits -/
def isU (n : Int) : Bool := decide (0 ≤ n) && decide (n ≤ 18446744073709551615)
def allU (l : List (Int × Int)) : Bool := l.all fun v => isU v.1
abbrev c_chainRight : Ctr O0 := ⟨[.val (.slice tVer)], [.val .bool], fun (x : List (Int × Int) × Unit) => grd (lenOk x.1) ((rightFrom 0 x.1, ()), ((), ()))⟩
abbrev c_rchainRight : Ctr O0 := ⟨[.val (.slice tVer)], [.val .bool], fun (x : List (Int × Int) × Unit) => grd (lenOk x.1 && allU x.1) ((rightFrom 0 x.1, ()), ((), ()))⟩
abbrev c_upto : Ctr O0 := ⟨[.val (.slice tVer), .val tU], [.val tI], fun (x : List (Int × Int) × Int × Unit) => grd (lenOk x.1 && rightFrom 0 x.1) ((((cnt x.1 x.2.1 : Nat) : Int), ()), ((), (), ()))⟩
abbrev c_chainAt : Ctr O0 := ⟨[.val (.slice tVer), .val tU], [.val tW], fun (x : List (Int × Int) × Int × Unit) => grd (lenOk x.1 && rightFrom 0 x.1) ((atV x.1 x.2.1, ()), ((), (), ()))⟩
abbrev c_rchainAt : Ctr O0 := ⟨[.val (.slice tVer), .val tU], [.val tW], fun (x : List (Int × Int) × Int × Unit) => grd (lenOk x.1) ((atV x.1 x.2.1, ()), ((), (), ()))⟩
abbrev c_newest : Ctr O0 := ⟨[.val (.slice tVer)], [.val tU], fun (x : List (Int × Int) × Unit) => grd (lenOk x.1) ((newS x.1, ()), ((), ()))⟩
abbrev c_rnewest := c_newest
abbrev c_chainAdd : Ctr O0 := ⟨[.val (.slice tVer), .val tVer], [.own tVer, .val tI], fun (x : List (Int × Int) × (Int × Int) × Unit) => grd (lenOk x.1) (((addS x.1 x.2.1).1, (addS x.1 x.2.1).2, ()), ((), (), ()))⟩
abbrev c_rchainAdd := c_chainAdd
abbrev c_trim : Ctr O0 := ⟨[.val (.slice tVer), .val tU], [.own tVer], fun (x : List (Int × Int) × Int × Unit) => grd (lenOk x.1 && rightFrom 0 x.1) ((trimS x.1 x.2.1, ()), ((), (), ()))⟩
abbrev c_rtrim := c_trim
abbrev c_chain : Ctr O0 := ⟨[.val (.slice tI)], [.own tVer], fun (x : List Int × Unit) => some ((chainS x.1, ()), ((), ()))⟩
end Go.BB
/-! contracts of kind -/
namespace Go.BB
open Go
def sw {α β : Type} (n : Int) (f : α → β) : List (Int × α) → α → Option β
  | [], d => some (f d)
  | (c, v) :: l, d => br (n == c) (some (f v)) (sw n f l d)
def swv {α : Type} (n : Int) : List (Int × α) → α → α
  | [], d => d
  | (c, v) :: l, d => if n = c then v else swv n l d
theorem sw_eq {α β : Type} (n : Int) (f : α → β) (l : List (Int × α)) (d : α) : sw n f l d = some (f (swv n l d)) := by
  induction l with
  | nil => rfl
  | cons p l ih =>
    obtain ⟨c, v⟩ := p
    simp only [sw, swv, br, ih]
    by_cases h : n = c
    · subst h; simp
    · have : (n == c) = false := by simpa using h
      simp [h, this]
/-- the table of a function -/
def tabL : List (Int × (Int × Bool)) := [(1, (0, true)), (5, (0, true)), (15, (0, true)), (2, (1, true)), (3, (2, true)), (6, (2, true)), (16, (2, true)), (22, (2, true)), (23, (2, true)), (4, (3, true))]
def tabS (fn : Int) : Int × Bool := swv fn tabL (0, false)
def doesL : List (Int × (Bool × Bool)) := [(1, (true, false)), (2, (true, false)), (3, (true, false)), (4, (true, false)), (22, (true, true)), (23, (true, true)), (5, (false, true)), (6, (false, true)), (15, (false, true)), (16, (false, true))]
def doesS (fn : Int) : Bool × Bool := swv fn doesL (false, false)
def mostL : List (Int × (Int × Int)) := [(1, (2000, 0)), (2, (2000, 0)), (3, (125, 0)), (4, (125, 0)), (5, (0, 1)), (6, (0, 1)), (22, (0, 1)), (15, (0, 1968)), (16, (0, 123)), (23, (125, 121))]
def mostS (fn : Int) : Int × Int := swv fn mostL (0, 0)
def knownS (fn : Int) : Bool := (tabS fn).2 || (fn == 43)
def isBits (t : Int) : Bool := (t == 0) || (t == 1)
abbrev c_table : Ctr O0 := ⟨[.val tI], [.val tI, .val .bool], fun (x : Int × Unit) => some (((tabS x.1).1, (tabS x.1).2, ()), ((), ()))⟩
abbrev c_does : Ctr O0 := ⟨[.val tI], [.val .bool, .val .bool], fun (x : Int × Unit) => some (((doesS x.1).1, (doesS x.1).2, ()), ((), ()))⟩
abbrev c_reads : Ctr O0 := ⟨[.val tI], [.val .bool], fun (x : Int × Unit) => some (((doesS x.1).1, ()), ((), ()))⟩
abbrev c_writes : Ctr O0 := ⟨[.val tI], [.val .bool], fun (x : Int × Unit) => some (((doesS x.1).2, ()), ((), ()))⟩
abbrev c_known : Ctr O0 := ⟨[.val tI], [.val .bool], fun (x : Int × Unit) => some ((knownS x.1, ()), ((), ()))⟩
abbrev c_most : Ctr O0 := ⟨[.val tI], [.val tI, .val tI], fun (x : Int × Unit) => some (((mostS x.1).1, (mostS x.1).2, ()), ((), ()))⟩
abbrev c_kbits : Ctr O0 := ⟨[.val tI], [.val .bool], fun (x : Int × Unit) => some ((isBits x.1, ()), ((), ()))⟩
abbrev c_awake3 := c_awake
end Go.BB
/-! contracts of spans, cells, buffers, and what makes them by numbers -/
namespace Go.BB
open Go
abbrev Key := Int × Int
abbrev Cel := (Int × Int) × Int
abbrev Spn := Int × Int × Int
def keyLt (a b : Key) : Bool := decide (a.1 < b.1) || (decide (a.1 = b.1) && decide (a.2 < b.2))
def orderS (a b : Key) : Int := if keyLt a b then -1 else if a = b then 0 else 1
def cmpS (a b : Int) : Int := if a < b then -1 else if b < a then 1 else 0
/-- rising keys -/
def bufS : List Cel → Bool
  | [] => true
  | [_] => true
  | a :: b :: l => keyLt a.1 b.1 && bufS (b :: l)
/-- how many stand ahead of a key -/
def cntK : List Cel → Key → Nat
  | [], _ => 0
  | c :: l, k => if keyLt c.1 k then cntK l k + 1 else 0
def hasK (l : List Cel) (k : Key) : Bool := decide (cntK l k < l.length) && decide ((l.getD (cntK l k) ((0, 0), 0)).1 = k)
def putK (l : List Cel) (c : Cel) : List Cel := l.take (cntK l c.1) ++ c :: l.drop (if hasK l c.1 then cntK l c.1 + 1 else cntK l c.1)
def getK (l : List Cel) (k : Key) : Int × Bool := if hasK l k then ((l.getD (cntK l k) ((0, 0), 0)).2, true) else (0, false)
def layFrom (t a : Int) : List Int → List Cel
  | [] => []
  | w :: ws => ((t, a), w) :: layFrom t (a + 1) ws
def restGo (t to : Int) : List Cel → Int → List Spn
  | [], f => if f < to then [(t, f, to)] else []
  | c :: l, f => if c.1.1 = t ∧ c.1.2 < to then (if f < c.1.2 then [(t, f, c.1.2)] else []) ++ restGo t to l (c.1.2 + 1) else (if f < to then [(t, f, to)] else [])
def restS (l : List Cel) (s : Spn) : List Spn := restGo s.1 s.2.2 (l.drop (cntK l (s.1, s.2.1))) s.2.1
def spanR (s : Spn) : Bool := decide (0 ≤ s.1) && (decide (s.1 < 4) && (decide (0 ≤ s.2.1) && (decide (s.2.2 ≤ 65536) && decide (s.2.1 < s.2.2))))
def aheadS (a b : Spn) : Bool := decide (a.1 < b.1) || (decide (a.1 = b.1) && decide (a.2.2 < b.2.1))
def canonS : List Spn → Bool
  | [] => true
  | [a] => spanR a
  | a :: b :: l => spanR a && (aheadS a b && canonS (b :: l))
def hasS (l : List Spn) (k : Key) : Bool := l.any fun x => decide (x.1 = k.1) && (decide (x.2.1 ≤ k.2) && decide (k.2 < x.2.2))
def cut1 (x s : Spn) : List Spn := if x.1 ≠ s.1 ∨ x.2.2 ≤ s.2.1 ∨ x.2.1 ≥ s.2.2 then [x] else (if x.2.1 < s.2.1 then [(x.1, x.2.1, s.2.1)] else []) ++ (if x.2.2 > s.2.2 then [(x.1, s.2.2, x.2.2)] else [])
def cutS (l : List Spn) (s : Spn) : List Spn := l.flatMap fun x => cut1 x s
def sizeS (l : List Spn) : Int := (l.map fun x => x.2.2 - x.2.1).sum
/-- small numbers -/
def spnOk (l : List Spn) : Bool := l.all fun x => decide (-70000 ≤ x.2.1) && (decide (x.2.1 ≤ 70000) && (decide (-70000 ≤ x.2.2) && decide (x.2.2 ≤ 70000)))
def spanS (k : Int) : Spn :=
  let f := if digitS k 1920 16 = 0 then 65496 + digitS k 4 40 else digitS k 4 40
  let n := if digitS k 1920 16 = 1 then 1 + 100 * digitS k 160 12 else 1 + digitS k 160 12
  (k % 4, f, min (f + n) 65536)
def keyS (k : Int) : Key := (k % 4, if digitS k 64 16 = 0 then 65535 - digitS k 4 16 else digitS k 4 16)
def cellS (k : Int) : Cel := (keyS k, if k % 4 < 2 then digitS k 1024 65536 % 2 else digitS k 1024 65536)
def cellsS (ks : List Int) : List Cel := (ks.take 20).foldl (fun l k => putK l (cellS k)) []
abbrev c_isNaN : Ctr O0 := ⟨[.val tI], [.val .bool], fun (x : Int × Unit) => some ((false, ()), ((), ()))⟩
abbrev c_compare : Ctr O0 := ⟨[.val tI, .val tI], [.val tI], fun (x : Int × Int × Unit) => some ((cmpS x.1 x.2.1, ()), ((), (), ()))⟩
def orS : List Int → Int
  | [] => 0
  | a :: l => if a = 0 then orS l else a
abbrev c_or : Ctr O0 := ⟨[.val (.slice tI)], [.val tI], fun (x : List Int × Unit) => grd (lenOk x.1) ((orS x.1, ()), ((), ()))⟩
abbrev c_order : Ctr O0 := ⟨[.val tKey, .val tKey], [.val tI], fun (x : Key × Key × Unit) => some ((orderS x.1 x.2.1, ()), ((), (), ()))⟩
abbrev c_find1 : Ctr O0 := ⟨[.val tCell, .val tKey], [.val tI], fun (x : Cel × Key × Unit) => some ((orderS x.1.1 x.2.1, ()), ((), (), ()))⟩
abbrev c_bsearch (g : Nat) : Ctr O0 := ⟨[.val (.slice tCell), .val tKey, .fn g], [.val tI, .val .bool], fun (x : List Cel × Key × Unit × Unit) => grd (lenOk x.1 && bufS x.1) ((((cntK x.1 x.2.1 : Nat) : Int), hasK x.1 x.2.1, ()), ((), (), (), ()))⟩
abbrev c_bfind : Ctr O0 := ⟨[.val (.slice tCell), .val tKey], [.val tI, .val .bool], fun (x : List Cel × Key × Unit) => grd (lenOk x.1 && bufS x.1) ((((cntK x.1 x.2.1 : Nat) : Int), hasK x.1 x.2.1, ()), ((), (), ()))⟩
abbrev c_rbfind := c_bfind
abbrev c_bright : Ctr O0 := ⟨[.val (.slice tCell)], [.val .bool], fun (x : List Cel × Unit) => grd (lenOk x.1) ((bufS x.1, ()), ((), ()))⟩
abbrev c_rbright := c_bright
abbrev c_put : Ctr O0 := ⟨[.val (.slice tCell), .val tCell], [.own tCell], fun (x : List Cel × Cel × Unit) => grd (lenOk x.1 && bufS x.1) ((putK x.1 x.2.1, ()), ((), (), ()))⟩
abbrev c_rput := c_put
abbrev c_bget : Ctr O0 := ⟨[.val (.slice tCell), .val tKey], [.val tW, .val .bool], fun (x : List Cel × Key × Unit) => grd (lenOk x.1 && bufS x.1) (((getK x.1 x.2.1).1, (getK x.1 x.2.1).2, ()), ((), (), ()))⟩
abbrev c_rbget := c_bget
abbrev c_lay : Ctr O0 := ⟨[.val tKey, .val (.slice tW)], [.own tCell], fun (x : Key × List Int × Unit) => grd (lenOk x.2.1 && (decide (-9223372036854775808 ≤ x.1.2) && decide (x.1.2 ≤ 9223372036853775807))) ((layFrom x.1.1 x.1.2 x.2.1, ()), ((), (), ()))⟩
abbrev c_rest : Ctr O0 := ⟨[.val (.slice tCell), .val tSpan], [.own tSpan], fun (x : List Cel × Spn × Unit) => grd (lenOk x.1 && (bufS x.1 && spanR x.2.1)) ((restS x.1 x.2.1, ()), ((), (), ()))⟩
abbrev c_rrest := c_rest
abbrev c_rspanRight : Ctr O0 := ⟨[.val tSpan], [.val .bool], fun (x : Spn × Unit) => some ((spanR x.1, ()), ((), ()))⟩
abbrev c_spanRight := c_rspanRight
abbrev c_rcanon : Ctr O0 := ⟨[.val (.slice tSpan)], [.val .bool], fun (x : List Spn × Unit) => grd (lenOk x.1) ((canonS x.1, ()), ((), ()))⟩
abbrev c_rcut : Ctr O0 := ⟨[.val (.slice tSpan), .val tSpan], [.own tSpan], fun (x : List Spn × Spn × Unit) => grd (lenOk x.1) ((cutS x.1 x.2.1, ()), ((), (), ()))⟩
abbrev c_rhas : Ctr O0 := ⟨[.val (.slice tSpan), .val tKey], [.val .bool], fun (x : List Spn × Key × Unit) => grd (lenOk x.1) ((hasS x.1 x.2.1, ()), ((), (), ()))⟩
abbrev c_rsize : Ctr O0 := ⟨[.val (.slice tSpan)], [.val tI], fun (x : List Spn × Unit) => grd (lenOk x.1 && spnOk x.1) ((sizeS x.1, ()), ((), ()))⟩
abbrev c_rless : Ctr O0 := ⟨[.val tKey, .val tKey], [.val .bool], fun (x : Key × Key × Unit) => some ((keyLt x.1 x.2.1, ()), ((), (), ()))⟩
abbrev c_span : Ctr O0 := ⟨[.val tI], [.val tSpan], fun (x : Int × Unit) => some ((spanS x.1, ()), ((), ()))⟩
abbrev c_key : Ctr O0 := ⟨[.val tI], [.val tKey], fun (x : Int × Unit) => some ((keyS x.1, ()), ((), ()))⟩
abbrev c_cell : Ctr O0 := ⟨[.val tI], [.val tCell], fun (x : Int × Unit) => some ((cellS x.1, ()), ((), ()))⟩
abbrev c_cells : Ctr O0 := ⟨[.val (.slice tI)], [.own tCell], fun (x : List Int × Unit) => some ((cellsS x.1, ()), ((), ()))⟩
abbrev c_awake18 := c_awake
end Go.BB
/-! contracts of stores -/
namespace Go.BB
open Go
abbrev Ver := Int × Int
abbrev Chs := List (Key × List Ver)
abbrev eqK : Key → Key → Bool := eqD tKey
def keyR (k : Key) : Bool := decide (0 ≤ k.1) && (decide (k.1 < 4) && (decide (0 ≤ k.2) && decide (k.2 < 65536)))
def celR (c : Cel) : Bool := keyR c.1 && (decide (c.2 ≤ 1) || !isBits c.1.1)
/-- each may be, and no key stands twice -/
def onceGo : List Key → List Cel → Bool
  | _, [] => true
  | seen, c :: l => celR c && (!(seen.any fun k => decide (k = c.1)) && onceGo (c.1 :: seen) l)
def onceS (l : List Cel) : Bool := onceGo [] l && decide (l ≠ [])
def chnOf (m : Chs) (k : Key) : List Ver := mval m (midx eqK m k)
def laid (m : Chs) (k : Key) (v : Ver) : Chs := mput (ment eqK m k) (midx eqK (ment eqK m k) k) (cat (mval (ment eqK m k) (midx eqK (ment eqK m k) k)) [v])
def laidAll (q : Int) (m : Chs) (l : List Cel) : Chs := l.foldl (fun m c => laid m c.1 (q, c.2)) m
abbrev Sto := Int × Int × Int × Chs × Unit
def chsLen (m : Chs) : Nat := (m.map fun p => p.2.length).sum
/-- what is so of each store -/
def stoOk (s : Sto) : Bool := isU s.1 && (decide (0 ≤ s.2.1) && (decide (s.2.1 ≤ s.2.2.1) && (decide (s.2.2.1 ≤ 1048576) && (decide (s.2.1 ≤ 500000) && (decide ((chsLen s.2.2.2.1 : Int) = s.2.1) && (s.2.2.2.1.all fun p => rightFrom 0 p.2 && decide (newS p.2 ≤ s.1)))))))
def instS (s : Sto) (l : List Cel) : (Int × Int) × Sto :=
  if onceS l = false then ((0, 1), s)
  else if s.1 = 18446744073709551615 then ((0, 8), s)
  else if (l.length : Int) > s.2.2.1 - s.2.1 then ((0, 4), s)
  else ((s.1 + 1, 0), (s.1 + 1, s.2.1 + l.length, s.2.2.1, laidAll (s.1 + 1) s.2.2.2.1 l, ()))
def stNewS (first most : Int) : Sto := (first, 0, min (max most 0) 1048576, [], ())
abbrev c_ckey : Ctr O0 := ⟨[.val tKey], [.val .bool], fun (x : Key × Unit) => some ((keyR x.1, ()), ((), ()))⟩
abbrev c_cright : Ctr O0 := ⟨[.val tCell], [.val .bool], fun (x : Cel × Unit) => some ((celR x.1, ()), ((), ()))⟩
abbrev c_once : Ctr O0 := ⟨[.val (.slice tCell)], [.val .bool], fun (x : List Cel × Unit) => grd (lenOk x.1) ((onceS x.1, ()), ((), ()))⟩
abbrev c_stNew : Ctr O0 := ⟨[.val tU, .val tI], [.box shStore], fun (x : Int × Int × Unit) => some ((stNewS x.1 x.2.1, ()), ((), (), ()))⟩
abbrev c_stLast : Ctr O0 := ⟨[.box shStore], [.val tU], fun (x : Sto × Unit) => some ((x.1.1, ()), (x.1, ()))⟩
abbrev c_stVersions : Ctr O0 := ⟨[.box shStore], [.val tI], fun (x : Sto × Unit) => some ((x.1.2.1, ()), (x.1, ()))⟩
abbrev c_stKeys : Ctr O0 := ⟨[.box shStore], [.val tI], fun (x : Sto × Unit) => some (((x.1.2.2.2.1.length : Int), ()), (x.1, ()))⟩
abbrev c_stRead : Ctr O0 := ⟨[.box shStore, .val tKey, .val tU], [.val tW], fun (x : Sto × Key × Int × Unit) => grd (stoOk x.1) ((atV (chnOf x.1.2.2.2.1 x.2.1) x.2.2.1, ()), (x.1, (), (), ()))⟩
abbrev c_stNewest : Ctr O0 := ⟨[.box shStore, .val tKey], [.val tU], fun (x : Sto × Key × Unit) => grd (stoOk x.1) ((newS (chnOf x.1.2.2.2.1 x.2.1), ()), (x.1, (), ()))⟩
abbrev c_stInstall : Ctr O0 := ⟨[.box shStore, .val (.slice tCell)], [.val tU, .val tI], fun (x : Sto × List Cel × Unit) => grd (stoOk x.1 && lenOk x.2.1) (((instS x.1 x.2.1).1.1, (instS x.1 x.2.1).1.2, ()), ((instS x.1 x.2.1).2, (), ()))⟩

abbrev c_awake17 := c_awake
end Go.BB
