/- A symbolic machine for the model's code, and what it shows of this seat's functions. No conditions. -/
import Derived.Test.YteaomngbkklfoaaRSStore
set_option linter.unusedVariables false
set_option linter.unusedSimpArgs false
/-! contracts of the document's stores -/
namespace Go.BB
open Go
abbrev Row := Key × List Ver
abbrev Ref := Int × Int × List Row × Unit
/-- how many rows stand ahead of a key -/
def cntR : List Row → Key → Nat
  | [], _ => 0
  | r :: l, k => if keyLt r.1 k then cntR l k + 1 else 0
def hasR (l : List Row) (k : Key) : Bool := decide (cntR l k < l.length) && decide ((l.getD (cntR l k) ((0, 0), [])).1 = k)
def rowOf (l : List Row) (k : Key) : List Ver := if hasR l k then (l.getD (cntR l k) ((0, 0), [])).2 else []
/-- rising keys -/
def srtR : List Row → Bool
  | [] => true
  | [_] => true
  | a :: b :: l => keyLt a.1 b.1 && srtR (b :: l)
def laidR (l : List Row) (k : Key) (v : Ver) : List Row :=
  if hasR l k then l.set (cntR l k) ((l.getD (cntR l k) ((0, 0), [])).1, (l.getD (cntR l k) ((0, 0), [])).2 ++ [v])
  else l.take (cntR l k) ++ (k, [v]) :: l.drop (cntR l k)
def laidAllR (q : Int) (m : List Row) (l : List Cel) : List Row := l.foldl (fun m c => laidR m c.1 (q, c.2)) m
/-- what is so of each of the document's stores -/
def refOk (x : Ref) : Bool := isU x.1 && (decide (x.2.1 ≤ 1048576) && (decide ((chsLen x.2.2.1 : Int) ≤ x.2.1) && (decide (chsLen x.2.2.1 ≤ 500000) && (srtR x.2.2.1 && (decide (x.2.2.1.length ≤ 262144) && (x.2.2.1.all fun p => decide (p.2 ≠ []) && (rightFrom 0 p.2 && decide (newS p.2 ≤ x.1))))))))
def sortedS (l : List Cel) : List Cel × Bool := if onceGo [] l then (l.foldl putK [], true) else ([], false)
def rinstS (x : Ref) (l : List Cel) : (Int × Int) × Ref :=
  if onceS l = false then ((0, 1), x)
  else if x.1 = 18446744073709551615 then ((0, 8), x)
  else if (chsLen x.2.2.1 : Int) + l.length > x.2.1 then ((0, 4), x)
  else ((x.1 + 1, 0), (x.1 + 1, x.2.1, laidAllR (x.1 + 1) x.2.2.1 l, ()))
def rstNewS (first most : Int) : Ref := (first, min (max most 0) 1048576, [], ())
abbrev c_rstNew : Ctr O0 := ⟨[.val tU, .val tI], [.box shRef], fun (x : Int × Int × Unit) => some ((rstNewS x.1 x.2.1, ()), ((), (), ()))⟩
abbrev c_place : Ctr O0 := ⟨[.rop tRef, .val tKey], [.val tI, .val .bool], fun (x : Ref × Key × Unit) => grd (lenOk x.1.2.2.1 && srtR x.1.2.2.1) ((((cntR x.1.2.2.1 x.2.1 : Nat) : Int), hasR x.1.2.2.1 x.2.1, ()), ((), (), ()))⟩
abbrev c_rstRead : Ctr O0 := ⟨[.rop tRef, .val tKey, .val tU], [.val tW], fun (x : Ref × Key × Int × Unit) => grd (refOk x.1) ((atV (rowOf x.1.2.2.1 x.2.1) x.2.2.1, ()), ((), (), (), ()))⟩
abbrev c_rstNewest : Ctr O0 := ⟨[.rop tRef, .val tKey], [.val tU], fun (x : Ref × Key × Unit) => grd (refOk x.1) ((newS (rowOf x.1.2.2.1 x.2.1), ()), ((), (), ()))⟩
abbrev c_rstVersions : Ctr O0 := ⟨[.rop tRef], [.val tI], fun (x : Ref × Unit) => grd (lenOk x.1.2.2.1 && decide (chsLen x.1.2.2.1 ≤ 1048576)) (((chsLen x.1.2.2.1 : Int), ()), ((), ()))⟩
abbrev c_rcelR := c_cright
abbrev c_sorted : Ctr O0 := ⟨[.val (.slice tCell)], [.own tCell, .val .bool], fun (x : List Cel × Unit) => grd (lenOk x.1) (((sortedS x.1).1, (sortedS x.1).2, ()), ((), ()))⟩
abbrev c_rstInstall : Ctr O0 := ⟨[.box shRef, .val (.slice tCell)], [.val tU, .val tI], fun (x : Ref × List Cel × Unit) => grd (refOk x.1 && (lenOk x.2.1 && decide (x.2.1.length ≤ 100000))) (((rinstS x.1 x.2.1).1.1, (rinstS x.1 x.2.1).1.2, ()), ((rinstS x.1 x.2.1).2, (), ()))⟩
end Go.BB
/-! contracts of spans' sums, views, and what was written since -/
namespace Go.BB
open Go
abbrev Vw := Int × List Spn × List Cel
def mergeS (s x : Spn) : Spn := (s.1, min s.2.1 x.2.1, max s.2.2 x.2.2)
/-- all addresses of l and of s, for canonical l -/
def addGo : List Spn → Spn → List Spn
  | [], s => [s]
  | x :: l, s => if aheadS x s then x :: addGo l s else if aheadS s x then s :: x :: l else addGo l (mergeS s x)
def addAll (l r : List Spn) : List Spn := r.foldl addGo l
def bothS (a b : Spn) : Spn := if a.1 ≠ b.1 then (0, 0, 0) else (a.1, max a.2.1 b.2.1, min a.2.2 b.2.2)
def coverS (l : List Spn) (s : Spn) : Bool := l.any fun x => decide (x.1 = s.1) && (decide (x.2.1 ≤ s.2.1) && decide (s.2.2 ≤ x.2.2))
def spansS (ks : List Int) : List Spn := (ks.take 20).foldl (fun l k => addGo l (spanS k)) []
/-- what stands at n keys from a on -/
def lookN (f : Key → Int) (w : List Cel) (t a : Int) : Nat → List Int
  | 0 => []
  | n + 1 => (if (getK w (t, a)).2 then (getK w (t, a)).1 else f (t, a)) :: lookN f w t (a + 1) n
def lookP (m : Chs) (v : Vw) (s : Spn) : List Int := lookN (fun k => atV (chnOf m k) v.1) v.2.2 s.1 s.2.1 (s.2.2 - s.2.1).toNat
def lookD (m : List Row) (v : Vw) (s : Spn) : List Int := lookN (fun k => atV (rowOf m k) v.1) v.2.2 s.1 s.2.1 (s.2.2 - s.2.1).toNat
def viewOk (v : Vw) : Bool := canonS v.2.1 && (bufS v.2.2 && (decide (v.2.1.length ≤ 100000) && decide (v.2.2.length ≤ 100000)))
def readsS (v : Vw) (s : Spn) : List Spn := addAll v.2.1 (restS v.2.2 s)
def viewRead (v : Vw) (s : Spn) (most : Int) (l : List Int) : (Vw × List Int) × Int :=
  if ((readsS v s).length : Int) > most then ((v, []), 4) else (((v.1, readsS v s, v.2.2), l), 0)
def writesS (v : Vw) (l : List Cel) : List Cel := l.foldl putK v.2.2
def viewWrite (v : Vw) (l : List Cel) (most : Int) : Vw × Int :=
  if ((writesS v l).length : Int) > most then (v, 4) else ((v.1, v.2.1, writesS v l), 0)
def rightsS (l : List Spn) : Bool := l.all spanR
/-- the first key of n from a on that was written since -/
def clashN (f : Key → Int) (since t a : Int) : Nat → Key × Bool
  | 0 => ((0, 0), false)
  | n + 1 => if f (t, a) ≤ since then clashN f since t (a + 1) n else ((t, a), true)
def clashL (f : Key → Int) (since : Int) : List Spn → Key × Bool
  | [] => ((0, 0), false)
  | s :: l => if (clashN f since s.1 s.2.1 (s.2.2 - s.2.1).toNat).2 then clashN f since s.1 s.2.1 (s.2.2 - s.2.1).toNat else clashL f since l
def clashP (m : Chs) (l : List Spn) (since : Int) : Key × Bool := clashL (fun k => newS (chnOf m k)) since l
def clashD : List Row → List Spn → Int → Key × Bool
  | [], _, _ => ((0, 0), false)
  | r :: m, l, since => if newS r.2 > since && hasS l r.1 then (r.1, true) else clashD m l since
abbrev c_spanAhead : Ctr O0 := ⟨[.val tSpan, .val tSpan], [.val .bool], fun (x : Spn × Spn × Unit) => some ((aheadS x.1 x.2.1, ()), ((), (), ()))⟩
abbrev c_spanAdd : Ctr O0 := ⟨[.val (.slice tSpan), .val tSpan], [.own tSpan], fun (x : List Spn × Spn × Unit) => grd (lenOk x.1 && (canonS x.1 && spanR x.2.1)) ((addGo x.1 x.2.1, ()), ((), (), ()))⟩
abbrev c_rspanAdd := c_spanAdd
abbrev c_rcovers : Ctr O0 := ⟨[.val (.slice tSpan), .val tSpan], [.val .bool], fun (x : List Spn × Spn × Unit) => grd (lenOk x.1) ((coverS x.1 x.2.1, ()), ((), (), ()))⟩
abbrev c_spans : Ctr O0 := ⟨[.val (.slice tI)], [.own tSpan], fun (x : List Int × Unit) => some ((spansS x.1, ()), ((), ()))⟩
abbrev c_viewOwn : Ctr O0 := ⟨[.val tView], [.val tView], fun (x : Vw × Unit) => grd (lenOk x.1.2.1 && lenOk x.1.2.2) ((x.1, ()), ((), ()))⟩
abbrev c_look : Ctr O0 := ⟨[.box shStore, .val tView, .val tSpan], [.own tW], fun (x : Sto × Vw × Spn × Unit) => grd (stoOk x.1 && (viewOk x.2.1 && spanR x.2.2.1)) ((lookP x.1.2.2.2.1 x.2.1 x.2.2.1, ()), (x.1, (), (), ()))⟩
abbrev c_viewRead : Ctr O0 := ⟨[.box shStore, .val tView, .val tSpan, .val tI], [.val tView, .own tW, .val tI], fun (x : Sto × Vw × Spn × Int × Unit) => grd (stoOk x.1 && (viewOk x.2.1 && spanR x.2.2.1)) (((viewRead x.2.1 x.2.2.1 x.2.2.2.1 (lookP x.1.2.2.2.1 x.2.1 x.2.2.1)).1.1, (viewRead x.2.1 x.2.2.1 x.2.2.2.1 (lookP x.1.2.2.2.1 x.2.1 x.2.2.1)).1.2, (viewRead x.2.1 x.2.2.1 x.2.2.2.1 (lookP x.1.2.2.2.1 x.2.1 x.2.2.1)).2, ()), (x.1, (), (), (), ()))⟩
abbrev c_viewWrite : Ctr O0 := ⟨[.val tView, .row tCell, .val tI], [.val tView, .val tI], fun (x : Vw × (List Cel × Nat) × Int × Unit) => grd (viewOk x.1 && (decide (x.2.1.1.length ≤ 100000) && decide (x.2.1.2 ≤ x.2.1.1.length))) (((viewWrite x.1 (x.2.1.1.take x.2.1.2) x.2.2.1).1, (viewWrite x.1 (x.2.1.1.take x.2.1.2) x.2.2.1).2, ()), ((), x.2.1.1, (), ()))⟩
abbrev c_rlook : Ctr O0 := ⟨[.rop tRef, .val tView, .val tSpan], [.own tW], fun (x : Ref × Vw × Spn × Unit) => grd (refOk x.1 && (viewOk x.2.1 && spanR x.2.2.1)) ((lookD x.1.2.2.1 x.2.1 x.2.2.1, ()), ((), (), (), ()))⟩
abbrev c_rviewRead : Ctr O0 := ⟨[.box shRef, .val tView, .val tSpan, .val tI], [.val tView, .own tW, .val tI], fun (x : Ref × Vw × Spn × Int × Unit) => grd (refOk x.1 && (viewOk x.2.1 && spanR x.2.2.1)) (((viewRead x.2.1 x.2.2.1 x.2.2.2.1 (lookD x.1.2.2.1 x.2.1 x.2.2.1)).1.1, (viewRead x.2.1 x.2.2.1 x.2.2.2.1 (lookD x.1.2.2.1 x.2.1 x.2.2.1)).1.2, (viewRead x.2.1 x.2.2.1 x.2.2.2.1 (lookD x.1.2.2.1 x.2.1 x.2.2.1)).2, ()), (x.1, (), (), (), ()))⟩
abbrev c_rviewWrite : Ctr O0 := ⟨[.val tView, .val (.slice tCell), .val tI], [.val tView, .val tI], fun (x : Vw × List Cel × Int × Unit) => grd (viewOk x.1 && decide (x.2.1.length ≤ 100000)) (((viewWrite x.1 x.2.1 x.2.2.1).1, (viewWrite x.1 x.2.1 x.2.2.1).2, ()), ((), (), (), ()))⟩
abbrev c_clash : Ctr O0 := ⟨[.box shStore, .val (.slice tSpan), .val tU], [.val tKey, .val .bool], fun (x : Sto × List Spn × Int × Unit) => grd (stoOk x.1 && (lenOk x.2.1 && rightsS x.2.1)) (((clashP x.1.2.2.2.1 x.2.1 x.2.2.1).1, (clashP x.1.2.2.2.1 x.2.1 x.2.2.1).2, ()), (x.1, (), (), ()))⟩
abbrev c_fresh : Ctr O0 := ⟨[.box shStore, .val (.slice tSpan), .val tU], [.val .bool], fun (x : Sto × List Spn × Int × Unit) => grd (stoOk x.1 && (lenOk x.2.1 && rightsS x.2.1)) ((!(clashP x.1.2.2.2.1 x.2.1 x.2.2.1).2, ()), (x.1, (), (), ()))⟩
abbrev c_rclash : Ctr O0 := ⟨[.rop tRef, .val (.slice tSpan), .val tU], [.val tKey, .val .bool], fun (x : Ref × List Spn × Int × Unit) => grd (refOk x.1 && lenOk x.2.1) (((clashD x.1.2.2.1 x.2.1 x.2.2.1).1, (clashD x.1.2.2.1 x.2.1 x.2.2.1).2, ()), ((), (), (), ()))⟩
/-- two stores behind some installs by numbers -/
def storesGo : Nat → Sto × Ref → List Int → Sto × Ref
  | 0, p, _ => p
  | n + 1, p, ks => if ks = [] then p else storesGo n ((instS p.1 (cellsS (ks.take 3))).2, (rinstS p.2 (cellsS (ks.take 3))).2) (ks.drop 3)
def storesS (ks : List Int) : Sto × Ref := storesGo 14 (stNewS 0 10000, rstNewS 0 10000) ks
abbrev c_stores : Ctr O0 := ⟨[.val (.slice tI)], [.box shStore, .box shRef], fun (x : List Int × Unit) => grd (lenOk x.1) (((storesS x.1).1, (storesS x.1).2, ()), ((), ()))⟩
def sameVw (v w : Vw) : Bool := decide (v = w)
abbrev c_sameView : Ctr O0 := ⟨[.val tView, .val tView], [.val .bool], fun (x : Vw × Vw × Unit) => grd (viewOk x.1 && viewOk x.2.1) ((sameVw x.1 x.2.1, ()), ((), (), ()))⟩
def shortS (k : Int) : Spn := ((spanS k).1, (spanS k).2.1, min (spanS k).2.2 ((spanS k).2.1 + 60))
abbrev c_short : Ctr O0 := ⟨[.val tI], [.val tSpan], fun (x : Int × Unit) => some ((shortS x.1, ()), ((), ()))⟩
abbrev c_awake19 := c_awake
abbrev c_awake20 := c_awake
end Go.BB
