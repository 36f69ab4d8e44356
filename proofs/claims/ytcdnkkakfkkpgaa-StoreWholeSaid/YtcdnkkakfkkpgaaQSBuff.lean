/- A symbolic machine for the model's code, and what it shows of this seat's functions. No conditions. -/
import Derived.Test.YtcdnkkakfkkpgaaQSChain
import Derived.Test.YtcdnkkakfkkpgaaQSKind
set_option linter.unusedSimpArgs false
set_option linter.unusedVariables false
/-! contracts of spans, cells, buffers, and what makes them by numbers -/
namespace Go.BB
open Go
abbrev Key := Int × Int
abbrev Cel := (Int × Int) × Int
abbrev Spn := Int × Int × Int
def keyLt (a b : Key) : Bool := decide (a.1 < b.1) || (decide (a.1 = b.1) && decide (a.2 < b.2))
def orderS (a b : Key) : Int := if keyLt a b then -1 else if a = b then 0 else 1
def cmpS (a b : Int) : Int := if a < b then -1 else if b < a then 1 else 0
/-- rising keys -/
def bufS : List Cel → Bool
  | [] => true
  | [_] => true
  | a :: b :: l => keyLt a.1 b.1 && bufS (b :: l)
/-- how many stand ahead of a key -/
def cntK : List Cel → Key → Nat
  | [], _ => 0
  | c :: l, k => if keyLt c.1 k then cntK l k + 1 else 0
def hasK (l : List Cel) (k : Key) : Bool := decide (cntK l k < l.length) && decide ((l.getD (cntK l k) ((0, 0), 0)).1 = k)
def putK (l : List Cel) (c : Cel) : List Cel := l.take (cntK l c.1) ++ c :: l.drop (if hasK l c.1 then cntK l c.1 + 1 else cntK l c.1)
def getK (l : List Cel) (k : Key) : Int × Bool := if hasK l k then ((l.getD (cntK l k) ((0, 0), 0)).2, true) else (0, false)
def layFrom (t a : Int) : List Int → List Cel
  | [] => []
  | w :: ws => ((t, a), w) :: layFrom t (a + 1) ws
def restGo (t to : Int) : List Cel → Int → List Spn
  | [], f => if f < to then [(t, f, to)] else []
  | c :: l, f => if c.1.1 = t ∧ c.1.2 < to then (if f < c.1.2 then [(t, f, c.1.2)] else []) ++ restGo t to l (c.1.2 + 1) else (if f < to then [(t, f, to)] else [])
def restS (l : List Cel) (s : Spn) : List Spn := restGo s.1 s.2.2 (l.drop (cntK l (s.1, s.2.1))) s.2.1
def spanR (s : Spn) : Bool := decide (0 ≤ s.1) && (decide (s.1 < 4) && (decide (0 ≤ s.2.1) && (decide (s.2.2 ≤ 65536) && decide (s.2.1 < s.2.2))))
def aheadS (a b : Spn) : Bool := decide (a.1 < b.1) || (decide (a.1 = b.1) && decide (a.2.2 < b.2.1))
def canonS : List Spn → Bool
  | [] => true
  | [a] => spanR a
  | a :: b :: l => spanR a && (aheadS a b && canonS (b :: l))
def hasS (l : List Spn) (k : Key) : Bool := l.any fun x => decide (x.1 = k.1) && (decide (x.2.1 ≤ k.2) && decide (k.2 < x.2.2))
def cut1 (x s : Spn) : List Spn := if x.1 ≠ s.1 ∨ x.2.2 ≤ s.2.1 ∨ x.2.1 ≥ s.2.2 then [x] else (if x.2.1 < s.2.1 then [(x.1, x.2.1, s.2.1)] else []) ++ (if x.2.2 > s.2.2 then [(x.1, s.2.2, x.2.2)] else [])
def cutS (l : List Spn) (s : Spn) : List Spn := l.flatMap fun x => cut1 x s
def sizeS (l : List Spn) : Int := (l.map fun x => x.2.2 - x.2.1).sum
/-- small numbers -/
def spnOk (l : List Spn) : Bool := l.all fun x => decide (-70000 ≤ x.2.1) && (decide (x.2.1 ≤ 70000) && (decide (-70000 ≤ x.2.2) && decide (x.2.2 ≤ 70000)))
def spanS (k : Int) : Spn :=
  let f := if digitS k 1920 16 = 0 then 65496 + digitS k 4 40 else digitS k 4 40
  let n := if digitS k 1920 16 = 1 then 1 + 100 * digitS k 160 12 else 1 + digitS k 160 12
  (k % 4, f, min (f + n) 65536)
def keyS (k : Int) : Key := (k % 4, if digitS k 64 16 = 0 then 65535 - digitS k 4 16 else digitS k 4 16)
def cellS (k : Int) : Cel := (keyS k, if k % 4 < 2 then digitS k 1024 65536 % 2 else digitS k 1024 65536)
def cellsS (ks : List Int) : List Cel := (ks.take 20).foldl (fun l k => putK l (cellS k)) []
abbrev c_isNaN : Ctr O0 := ⟨[.val tI], [.val .bool], fun (x : Int × Unit) => some ((false, ()), ((), ()))⟩
abbrev c_compare : Ctr O0 := ⟨[.val tI, .val tI], [.val tI], fun (x : Int × Int × Unit) => some ((cmpS x.1 x.2.1, ()), ((), (), ()))⟩
def orS : List Int → Int
  | [] => 0
  | a :: l => if a = 0 then orS l else a
abbrev c_or : Ctr O0 := ⟨[.val (.slice tI)], [.val tI], fun (x : List Int × Unit) => grd (lenOk x.1) ((orS x.1, ()), ((), ()))⟩
abbrev c_order : Ctr O0 := ⟨[.val tKey, .val tKey], [.val tI], fun (x : Key × Key × Unit) => some ((orderS x.1 x.2.1, ()), ((), (), ()))⟩
abbrev c_find1 : Ctr O0 := ⟨[.val tCell, .val tKey], [.val tI], fun (x : Cel × Key × Unit) => some ((orderS x.1.1 x.2.1, ()), ((), (), ()))⟩
abbrev c_bsearch (g : Nat) : Ctr O0 := ⟨[.val (.slice tCell), .val tKey, .fn g], [.val tI, .val .bool], fun (x : List Cel × Key × Unit × Unit) => grd (lenOk x.1 && bufS x.1) ((((cntK x.1 x.2.1 : Nat) : Int), hasK x.1 x.2.1, ()), ((), (), (), ()))⟩
abbrev c_bfind : Ctr O0 := ⟨[.val (.slice tCell), .val tKey], [.val tI, .val .bool], fun (x : List Cel × Key × Unit) => grd (lenOk x.1 && bufS x.1) ((((cntK x.1 x.2.1 : Nat) : Int), hasK x.1 x.2.1, ()), ((), (), ()))⟩
abbrev c_rbfind := c_bfind
abbrev c_bright : Ctr O0 := ⟨[.val (.slice tCell)], [.val .bool], fun (x : List Cel × Unit) => grd (lenOk x.1) ((bufS x.1, ()), ((), ()))⟩
abbrev c_rbright := c_bright
abbrev c_put : Ctr O0 := ⟨[.val (.slice tCell), .val tCell], [.own tCell], fun (x : List Cel × Cel × Unit) => grd (lenOk x.1 && bufS x.1) ((putK x.1 x.2.1, ()), ((), (), ()))⟩
abbrev c_rput := c_put
abbrev c_bget : Ctr O0 := ⟨[.val (.slice tCell), .val tKey], [.val tW, .val .bool], fun (x : List Cel × Key × Unit) => grd (lenOk x.1 && bufS x.1) (((getK x.1 x.2.1).1, (getK x.1 x.2.1).2, ()), ((), (), ()))⟩
abbrev c_rbget := c_bget
abbrev c_lay : Ctr O0 := ⟨[.val tKey, .val (.slice tW)], [.own tCell], fun (x : Key × List Int × Unit) => grd (lenOk x.2.1 && (decide (-9223372036854775808 ≤ x.1.2) && decide (x.1.2 ≤ 9223372036853775807))) ((layFrom x.1.1 x.1.2 x.2.1, ()), ((), (), ()))⟩
abbrev c_rest : Ctr O0 := ⟨[.val (.slice tCell), .val tSpan], [.own tSpan], fun (x : List Cel × Spn × Unit) => grd (lenOk x.1 && (bufS x.1 && spanR x.2.1)) ((restS x.1 x.2.1, ()), ((), (), ()))⟩
abbrev c_rrest := c_rest
abbrev c_rspanRight : Ctr O0 := ⟨[.val tSpan], [.val .bool], fun (x : Spn × Unit) => some ((spanR x.1, ()), ((), ()))⟩
abbrev c_spanRight := c_rspanRight
abbrev c_rcanon : Ctr O0 := ⟨[.val (.slice tSpan)], [.val .bool], fun (x : List Spn × Unit) => grd (lenOk x.1) ((canonS x.1, ()), ((), ()))⟩
abbrev c_rcut : Ctr O0 := ⟨[.val (.slice tSpan), .val tSpan], [.own tSpan], fun (x : List Spn × Spn × Unit) => grd (lenOk x.1) ((cutS x.1 x.2.1, ()), ((), (), ()))⟩
abbrev c_rhas : Ctr O0 := ⟨[.val (.slice tSpan), .val tKey], [.val .bool], fun (x : List Spn × Key × Unit) => grd (lenOk x.1) ((hasS x.1 x.2.1, ()), ((), (), ()))⟩
abbrev c_rsize : Ctr O0 := ⟨[.val (.slice tSpan)], [.val tI], fun (x : List Spn × Unit) => grd (lenOk x.1 && spnOk x.1) ((sizeS x.1, ()), ((), ()))⟩
abbrev c_rless : Ctr O0 := ⟨[.val tKey, .val tKey], [.val .bool], fun (x : Key × Key × Unit) => some ((keyLt x.1 x.2.1, ()), ((), (), ()))⟩
abbrev c_span : Ctr O0 := ⟨[.val tI], [.val tSpan], fun (x : Int × Unit) => some ((spanS x.1, ()), ((), ()))⟩
abbrev c_key : Ctr O0 := ⟨[.val tI], [.val tKey], fun (x : Int × Unit) => some ((keyS x.1, ()), ((), ()))⟩
abbrev c_cell : Ctr O0 := ⟨[.val tI], [.val tCell], fun (x : Int × Unit) => some ((cellS x.1, ()), ((), ()))⟩
abbrev c_cells : Ctr O0 := ⟨[.val (.slice tI)], [.own tCell], fun (x : List Int × Unit) => some ((cellsS x.1, ()), ((), ()))⟩
abbrev c_awake18 := c_awake
end Go.BB
