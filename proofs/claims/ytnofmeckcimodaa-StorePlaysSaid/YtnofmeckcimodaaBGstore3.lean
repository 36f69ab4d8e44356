/- A symbolic machine for the model's code, and what it shows of this seat's functions. No conditions. -/
import Derived.Test.YtnofmeckcimodaaBSStore
import Derived.Test.YtnofmeckcimodaaBN
set_option linter.unusedVariables false
set_option linter.unusedSimpArgs false
/-! contracts of the document's stores -/
namespace Go.BB
open Go
abbrev Row := Key × List Ver
abbrev Ref := Int × Int × List Row × Unit
/-- how many rows stand ahead of a key -/
def cntR : List Row → Key → Nat
  | [], _ => 0
  | r :: l, k => if keyLt r.1 k then cntR l k + 1 else 0
def hasR (l : List Row) (k : Key) : Bool := decide (cntR l k < l.length) && decide ((l.getD (cntR l k) ((0, 0), [])).1 = k)
def rowOf (l : List Row) (k : Key) : List Ver := if hasR l k then (l.getD (cntR l k) ((0, 0), [])).2 else []
/-- rising keys -/
def srtR : List Row → Bool
  | [] => true
  | [_] => true
  | a :: b :: l => keyLt a.1 b.1 && srtR (b :: l)
def laidR (l : List Row) (k : Key) (v : Ver) : List Row :=
  if hasR l k then l.set (cntR l k) ((l.getD (cntR l k) ((0, 0), [])).1, (l.getD (cntR l k) ((0, 0), [])).2 ++ [v])
  else l.take (cntR l k) ++ (k, [v]) :: l.drop (cntR l k)
def laidAllR (q : Int) (m : List Row) (l : List Cel) : List Row := l.foldl (fun m c => laidR m c.1 (q, c.2)) m
/-- what is so of each of the document's stores -/
def refOk (x : Ref) : Bool := isU x.1 && (decide (x.2.1 ≤ 1048576) && (decide ((chsLen x.2.2.1 : Int) ≤ x.2.1) && (decide (chsLen x.2.2.1 ≤ 500000) && (srtR x.2.2.1 && (decide (x.2.2.1.length ≤ 262144) && (x.2.2.1.all fun p => decide (p.2 ≠ []) && (rightFrom 0 p.2 && decide (newS p.2 ≤ x.1))))))))
def sortedS (l : List Cel) : List Cel × Bool := if onceGo [] l then (l.foldl putK [], true) else ([], false)
def rinstS (x : Ref) (l : List Cel) : (Int × Int) × Ref :=
  if onceS l = false then ((0, 1), x)
  else if x.1 = 18446744073709551615 then ((0, 8), x)
  else if (chsLen x.2.2.1 : Int) + l.length > x.2.1 then ((0, 4), x)
  else ((x.1 + 1, 0), (x.1 + 1, x.2.1, laidAllR (x.1 + 1) x.2.2.1 l, ()))
def rstNewS (first most : Int) : Ref := (first, min (max most 0) 1048576, [], ())
abbrev c_rstNew : Ctr O0 := ⟨[.val tU, .val tI], [.box shRef], fun (x : Int × Int × Unit) => some ((rstNewS x.1 x.2.1, ()), ((), (), ()))⟩
abbrev c_place : Ctr O0 := ⟨[.rop tRef, .val tKey], [.val tI, .val .bool], fun (x : Ref × Key × Unit) => grd (lenOk x.1.2.2.1 && srtR x.1.2.2.1) ((((cntR x.1.2.2.1 x.2.1 : Nat) : Int), hasR x.1.2.2.1 x.2.1, ()), ((), (), ()))⟩
abbrev c_rstRead : Ctr O0 := ⟨[.rop tRef, .val tKey, .val tU], [.val tW], fun (x : Ref × Key × Int × Unit) => grd (refOk x.1) ((atV (rowOf x.1.2.2.1 x.2.1) x.2.2.1, ()), ((), (), (), ()))⟩
abbrev c_rstNewest : Ctr O0 := ⟨[.rop tRef, .val tKey], [.val tU], fun (x : Ref × Key × Unit) => grd (refOk x.1) ((newS (rowOf x.1.2.2.1 x.2.1), ()), ((), (), ()))⟩
abbrev c_rstVersions : Ctr O0 := ⟨[.rop tRef], [.val tI], fun (x : Ref × Unit) => grd (lenOk x.1.2.2.1 && decide (chsLen x.1.2.2.1 ≤ 1048576)) (((chsLen x.1.2.2.1 : Int), ()), ((), ()))⟩
abbrev c_rcelR := c_cright
abbrev c_sorted : Ctr O0 := ⟨[.val (.slice tCell)], [.own tCell, .val .bool], fun (x : List Cel × Unit) => grd (lenOk x.1) (((sortedS x.1).1, (sortedS x.1).2, ()), ((), ()))⟩
abbrev c_rstInstall : Ctr O0 := ⟨[.box shRef, .val (.slice tCell)], [.val tU, .val tI], fun (x : Ref × List Cel × Unit) => grd (refOk x.1 && (lenOk x.2.1 && decide (x.2.1.length ≤ 100000))) (((rinstS x.1 x.2.1).1.1, (rinstS x.1 x.2.1).1.2, ()), ((rinstS x.1 x.2.1).2, (), ()))⟩
end Go.BB
/-! contracts of gc -/
namespace Go.BB
open Go
/-- each chain trimmed -/
def gcM (q : Int) (m : Chs) : Chs := m.map fun p => (p.1, trimS p.2 q)
/-- no key stands twice -/
def nodM (m : Chs) : Bool := decide ((m.map (·.1)).Nodup)
def goneM (q : Int) (m : Chs) : Int := (chsLen m : Int) - (chsLen (gcM q m) : Int)
def gcS (s : Sto) (q : Int) : Sto := (s.1, s.2.1 - goneM q s.2.2.2.1, s.2.2.1, gcM q s.2.2.2.1, ())
def rgcS (x : Ref) (q : Int) : Ref := (x.1, x.2.1, gcM q x.2.2.1, ())
abbrev c_stGc : Ctr O0 := ⟨[.box shStore, .val tU], [.val tI], fun (x : Sto × Int × Unit) => grd (stoOk x.1 && nodM x.1.2.2.2.1) ((goneM x.2.1 x.1.2.2.2.1, ()), (gcS x.1 x.2.1, (), ()))⟩
abbrev c_rstGc : Ctr O0 := ⟨[.box shRef, .val tU], [.val tI], fun (x : Ref × Int × Unit) => grd (refOk x.1) ((goneM x.2.1 x.1.2.2.1, ()), (rgcS x.1 x.2.1, (), ()))⟩
end Go.BB
namespace Go.BB
open Go
abbrev c_someK : Ctr O0 := ⟨[.val (.slice tI), .val tI], [.val (.slice tI)], fun (x : List Int × Int × Unit) => grd (decide (x.1.length ≤ 100000)) (((x.1.drop (x.2.1 % (x.1.length + 1)).toNat).take (1 + x.1.length % 4), ()), ((), (), ()))⟩
/-- a store shows what the document's does -/
def likeB (s : Sto) (x : Ref) : Bool :=
  stoOk s && (refOk x && (decide (s.1 = x.1) && (decide (chsLen s.2.2.2.1 = chsLen x.2.2.1) && (decide (s.2.2.2.1.length = x.2.2.1.length) &&
    ((s.2.2.2.1.all fun p => decide (p.2 = rowOf x.2.2.1 p.1)) && (x.2.2.1.all fun p => decide (chnOf s.2.2.2.1 p.1 = p.2)))))))
abbrev c_sameSt : Ctr O0 := ⟨[.box shStore, .rop tRef, .val tI, .val tU], [.val .bool], fun (x : Sto × Ref × Int × Int × Unit) => grd (likeB x.1 x.2.1) ((true, ()), (x.1, (), (), (), ()))⟩
end Go.BB
set_option linter.unusedVariables false
namespace Go.BB
open Go Go.Proofs
set_option maxRecDepth 100000
set_option exponentiation.threshold 100000
noncomputable section
abbrev g_lStoreFull : List (Nat × Ctr O0) := [(n_awake17, c_awake17), (n_within, c_within), (n_stNew, c_stNew), (n_stInstall, c_stInstall), (n_stVersions, c_stVersions), (n_stLast, c_stLast), (n_stGc, c_stGc), (n_stKeys, c_stKeys), (n_stRead, c_stRead)]
def lStoreFull_tm : List Tm := [[((0 : Nat), none, Sh.val (Ty.int IntKind.i64)), ((1 : Nat), none, Sh.val (Ty.int IntKind.i64)),
    ((5 : Nat), none,
      ((Sh.val (Ty.int IntKind.u64)).cons
          ((Sh.val (Ty.int IntKind.i64)).cons
            ((Sh.val (Ty.int IntKind.i64)).cons
              ((Sh.map (MapK.mapS ((Ty.int IntKind.i64).pair (Ty.int IntKind.i64)) ((Ty.int IntKind.u64).pair (Ty.int IntKind.u16)))).cons
                Sh.unit)))).ptr),
    ((6 : Nat), none, Sh.own (((Ty.int IntKind.i64).pair (Ty.int IntKind.i64)).pair (Ty.int IntKind.u16))),
    ((7 : Nat), none, Sh.val (Ty.int IntKind.i64))],
  [((0 : Nat), none, Sh.val (Ty.int IntKind.i64)), ((1 : Nat), none, Sh.val (Ty.int IntKind.i64)),
    ((5 : Nat), none,
      ((Sh.val (Ty.int IntKind.u64)).cons
          ((Sh.val (Ty.int IntKind.i64)).cons
            ((Sh.val (Ty.int IntKind.i64)).cons
              ((Sh.map (MapK.mapS ((Ty.int IntKind.i64).pair (Ty.int IntKind.i64)) ((Ty.int IntKind.u64).pair (Ty.int IntKind.u16)))).cons
                Sh.unit)))).ptr),
    ((6 : Nat), none, Sh.own (((Ty.int IntKind.i64).pair (Ty.int IntKind.i64)).pair (Ty.int IntKind.u16))),
    ((8 : Nat), none, Sh.val (Ty.int IntKind.i64)), ((9 : Nat), none, Sh.val (Ty.int IntKind.i64))]]
def lStoreFull_L1 (rec10 : Int ×
    Int × (Int × Int × Int × List ((Int × Int) × List (Int × Int)) × Unit) × List ((Int × Int) × Int) × Int × Int × Unit →
  Option
    ((Bool × Unit) ×
      Unit ×
        Unit ×
          Unit)) : Int × Int × (Int × Int × Int × List ((Int × Int) × List (Int × Int)) × Unit) × List ((Int × Int) × Int) × Int × Int × Unit →
  Option ((Bool × Unit) × Unit × Unit × Unit) := fun (y12, y13, y14, y15, y16, y17, ()) =>
  br (decide (y17 < (40 : Int)))
  (bd
    (grd (stoOk (y14.1, y14.2.1, y14.2.2.1, y14.2.2.2.1, ()) && lenOk y15)
      (((instS (y14.1, y14.2.1, y14.2.2.1, y14.2.2.2.1, ()) y15).1.1, (instS (y14.1, y14.2.1, y14.2.2.1, y14.2.2.2.1, ()) y15).1.2,
          ()),
        (instS (y14.1, y14.2.1, y14.2.2.1, y14.2.2.2.1, ()) y15).2, (), ()))
    fun (x18 : (Int × Int × Unit) × (Int × Int × Int × List ((Int × Int) × List (Int × Int)) × Unit) × Unit × Unit) =>
    br (!(x18.1.2.1 == (0 : Int)) == decide (IntKind.i64.wrap (IntKind.i64.wrap (y16 + (1 : Int)) * y13) ≤ y12))
      (some ((false, ()), (), (), ()))
      (br (!decide (IntKind.i64.wrap (IntKind.i64.wrap (y16 + (1 : Int)) * y13) ≤ y12))
        (br (x18.1.2.1 != (4 : Int)) (some ((false, ()), (), (), ()))
          (br (!decide (IntKind.i64.wrap (IntKind.i64.wrap (y16 + (1 : Int)) * y13) ≤ y12))
            (br (x18.2.1.2.1 != IntKind.i64.wrap (y16 * y13)) (some ((false, ()), (), (), ()))
              (br (x18.2.1.1 != IntKind.u64.wrap y16) (some ((false, ()), (), (), ()))
                (bd
                  (grd (stoOk (x18.2.1.1, x18.2.1.2.1, x18.2.1.2.2.1, x18.2.1.2.2.2.1, ()) && nodM x18.2.1.2.2.2.1)
                    ((goneM x18.2.1.1 x18.2.1.2.2.2.1, ()),
                      gcS (x18.2.1.1, x18.2.1.2.1, x18.2.1.2.2.1, x18.2.1.2.2.2.1, ()) x18.2.1.1, (), ()))
                  fun (x19 : (Int × Unit) × (Int × Int × Int × List ((Int × Int) × List (Int × Int)) × Unit) × Unit × Unit) =>
                  br (y16 == (0 : Int))
                    (br (x19.1.1 == (0 : Int)) (some (((↑x19.2.1.2.2.2.1.length : Int) == (0 : Int), ()), (), (), ()))
                      (some ((false, ()), (), (), ())))
                    (bd
                      (grd (stoOk (x19.2.1.1, x19.2.1.2.1, x19.2.1.2.2.1, x19.2.1.2.2.2.1, ()) && lenOk y15)
                        (((instS (x19.2.1.1, x19.2.1.2.1, x19.2.1.2.2.1, x19.2.1.2.2.2.1, ()) y15).1.1,
                            (instS (x19.2.1.1, x19.2.1.2.1, x19.2.1.2.2.1, x19.2.1.2.2.2.1, ()) y15).1.2, ()),
                          (instS (x19.2.1.1, x19.2.1.2.1, x19.2.1.2.2.1, x19.2.1.2.2.2.1, ()) y15).2, (), ()))
                      fun (x20 : (Int × Int × Unit) × (Int × Int × Int × List ((Int × Int) × List (Int × Int)) × Unit) × Unit × Unit) =>
                      br (x19.1.1 == IntKind.i64.wrap (IntKind.i64.wrap (y16 - (1 : Int)) * y13))
                        (br ((↑x20.2.1.2.2.2.1.length : Int) == y13)
                          (br ((x20.1.2.1 == (0 : Int)) == decide (IntKind.i64.wrap ((2 : Int) * y13) ≤ y12))
                            (br (decide ((0 : Int) ≤ IntKind.i64.wrap (y13 - (1 : Int))))
                              (br (decide (IntKind.i64.wrap (y13 - (1 : Int)) < (↑y15.length : Int)))
                                (bd
                                  (grd (stoOk (x20.2.1.1, x20.2.1.2.1, x20.2.1.2.2.1, x20.2.1.2.2.2.1, ()))
                                    ((atV
                                          (chnOf x20.2.1.2.2.2.1
                                            ((y15.getD (IntKind.i64.wrap (y13 - (1 : Int))).toNat (((0 : Int), (0 : Int)), (0 : Int))).1.1,
                                              (y15.getD (IntKind.i64.wrap (y13 - (1 : Int))).toNat (((0 : Int), (0 : Int)), (0 : Int))).1.2))
                                          x20.2.1.1,
                                        ()),
                                      (x20.2.1.1, x20.2.1.2.1, x20.2.1.2.2.1, x20.2.1.2.2.2.1, ()), (), (), ()))
                                  fun
                                    (x21 :
                                      (Int × Unit) × (Int × Int × Int × List ((Int × Int) × List (Int × Int)) × Unit) × Unit × Unit × Unit) =>
                                  some
                                    ((x21.1.1 == IntKind.u16.wrap (IntKind.i64.wrap (y13 - (1 : Int))), ()), (), (),
                                      ()))
                                none)
                              none)
                            (some ((false, ()), (), (), ())))
                          (some ((false, ()), (), (), ())))
                        (some ((false, ()), (), (), ()))))))
            (rec10
              (y12, y13, (x18.2.1.1, x18.2.1.2.1, x18.2.1.2.2.1, x18.2.1.2.2.2.1, ()), y15, IntKind.i64.wrap (y16 + (1 : Int)),
                IntKind.i64.wrap (y17 + (1 : Int)), ()))))
        (br (!decide (IntKind.i64.wrap (IntKind.i64.wrap (y16 + (1 : Int)) * y13) ≤ y12))
          (br (x18.2.1.2.1 != IntKind.i64.wrap (y16 * y13)) (some ((false, ()), (), (), ()))
            (br (x18.2.1.1 != IntKind.u64.wrap y16) (some ((false, ()), (), (), ()))
              (bd
                (grd (stoOk (x18.2.1.1, x18.2.1.2.1, x18.2.1.2.2.1, x18.2.1.2.2.2.1, ()) && nodM x18.2.1.2.2.2.1)
                  ((goneM x18.2.1.1 x18.2.1.2.2.2.1, ()), gcS (x18.2.1.1, x18.2.1.2.1, x18.2.1.2.2.1, x18.2.1.2.2.2.1, ()) x18.2.1.1,
                    (), ()))
                fun (x22 : (Int × Unit) × (Int × Int × Int × List ((Int × Int) × List (Int × Int)) × Unit) × Unit × Unit) =>
                br (y16 == (0 : Int))
                  (br (x22.1.1 == (0 : Int)) (some (((↑x22.2.1.2.2.2.1.length : Int) == (0 : Int), ()), (), (), ()))
                    (some ((false, ()), (), (), ())))
                  (bd
                    (grd (stoOk (x22.2.1.1, x22.2.1.2.1, x22.2.1.2.2.1, x22.2.1.2.2.2.1, ()) && lenOk y15)
                      (((instS (x22.2.1.1, x22.2.1.2.1, x22.2.1.2.2.1, x22.2.1.2.2.2.1, ()) y15).1.1,
                          (instS (x22.2.1.1, x22.2.1.2.1, x22.2.1.2.2.1, x22.2.1.2.2.2.1, ()) y15).1.2, ()),
                        (instS (x22.2.1.1, x22.2.1.2.1, x22.2.1.2.2.1, x22.2.1.2.2.2.1, ()) y15).2, (), ()))
                    fun (x23 : (Int × Int × Unit) × (Int × Int × Int × List ((Int × Int) × List (Int × Int)) × Unit) × Unit × Unit) =>
                    br (x22.1.1 == IntKind.i64.wrap (IntKind.i64.wrap (y16 - (1 : Int)) * y13))
                      (br ((↑x23.2.1.2.2.2.1.length : Int) == y13)
                        (br ((x23.1.2.1 == (0 : Int)) == decide (IntKind.i64.wrap ((2 : Int) * y13) ≤ y12))
                          (br (decide ((0 : Int) ≤ IntKind.i64.wrap (y13 - (1 : Int))))
                            (br (decide (IntKind.i64.wrap (y13 - (1 : Int)) < (↑y15.length : Int)))
                              (bd
                                (grd (stoOk (x23.2.1.1, x23.2.1.2.1, x23.2.1.2.2.1, x23.2.1.2.2.2.1, ()))
                                  ((atV
                                        (chnOf x23.2.1.2.2.2.1
                                          ((y15.getD (IntKind.i64.wrap (y13 - (1 : Int))).toNat (((0 : Int), (0 : Int)), (0 : Int))).1.1,
                                            (y15.getD (IntKind.i64.wrap (y13 - (1 : Int))).toNat (((0 : Int), (0 : Int)), (0 : Int))).1.2))
                                        x23.2.1.1,
                                      ()),
                                    (x23.2.1.1, x23.2.1.2.1, x23.2.1.2.2.1, x23.2.1.2.2.2.1, ()), (), (), ()))
                                fun
                                  (x24 : (Int × Unit) × (Int × Int × Int × List ((Int × Int) × List (Int × Int)) × Unit) × Unit × Unit × Unit) =>
                                some
                                  ((x24.1.1 == IntKind.u16.wrap (IntKind.i64.wrap (y13 - (1 : Int))), ()), (), (),
                                    ()))
                              none)
                            none)
                          (some ((false, ()), (), (), ())))
                        (some ((false, ()), (), (), ())))
                      (some ((false, ()), (), (), ()))))))
          (rec10
            (y12, y13, (x18.2.1.1, x18.2.1.2.1, x18.2.1.2.2.1, x18.2.1.2.2.2.1, ()), y15, IntKind.i64.wrap (y16 + (1 : Int)),
              IntKind.i64.wrap (y17 + (1 : Int)), ())))))
  (br (y14.2.1 != IntKind.i64.wrap (y16 * y13)) (some ((false, ()), (), (), ()))
    (br (y14.1 != IntKind.u64.wrap y16) (some ((false, ()), (), (), ()))
      (bd
        (grd (stoOk (y14.1, y14.2.1, y14.2.2.1, y14.2.2.2.1, ()) && nodM y14.2.2.2.1)
          ((goneM y14.1 y14.2.2.2.1, ()), gcS (y14.1, y14.2.1, y14.2.2.1, y14.2.2.2.1, ()) y14.1, (), ()))
        fun (x25 : (Int × Unit) × (Int × Int × Int × List ((Int × Int) × List (Int × Int)) × Unit) × Unit × Unit) =>
        br (y16 == (0 : Int))
          (br (x25.1.1 == (0 : Int)) (some (((↑x25.2.1.2.2.2.1.length : Int) == (0 : Int), ()), (), (), ()))
            (some ((false, ()), (), (), ())))
          (bd
            (grd (stoOk (x25.2.1.1, x25.2.1.2.1, x25.2.1.2.2.1, x25.2.1.2.2.2.1, ()) && lenOk y15)
              (((instS (x25.2.1.1, x25.2.1.2.1, x25.2.1.2.2.1, x25.2.1.2.2.2.1, ()) y15).1.1,
                  (instS (x25.2.1.1, x25.2.1.2.1, x25.2.1.2.2.1, x25.2.1.2.2.2.1, ()) y15).1.2, ()),
                (instS (x25.2.1.1, x25.2.1.2.1, x25.2.1.2.2.1, x25.2.1.2.2.2.1, ()) y15).2, (), ()))
            fun (x26 : (Int × Int × Unit) × (Int × Int × Int × List ((Int × Int) × List (Int × Int)) × Unit) × Unit × Unit) =>
            br (x25.1.1 == IntKind.i64.wrap (IntKind.i64.wrap (y16 - (1 : Int)) * y13))
              (br ((↑x26.2.1.2.2.2.1.length : Int) == y13)
                (br ((x26.1.2.1 == (0 : Int)) == decide (IntKind.i64.wrap ((2 : Int) * y13) ≤ y12))
                  (br (decide ((0 : Int) ≤ IntKind.i64.wrap (y13 - (1 : Int))))
                    (br (decide (IntKind.i64.wrap (y13 - (1 : Int)) < (↑y15.length : Int)))
                      (bd
                        (grd (stoOk (x26.2.1.1, x26.2.1.2.1, x26.2.1.2.2.1, x26.2.1.2.2.2.1, ()))
                          ((atV
                                (chnOf x26.2.1.2.2.2.1
                                  ((y15.getD (IntKind.i64.wrap (y13 - (1 : Int))).toNat (((0 : Int), (0 : Int)), (0 : Int))).1.1,
                                    (y15.getD (IntKind.i64.wrap (y13 - (1 : Int))).toNat (((0 : Int), (0 : Int)), (0 : Int))).1.2))
                                x26.2.1.1,
                              ()),
                            (x26.2.1.1, x26.2.1.2.1, x26.2.1.2.2.1, x26.2.1.2.2.2.1, ()), (), (), ()))
                        fun (x27 : (Int × Unit) × (Int × Int × Int × List ((Int × Int) × List (Int × Int)) × Unit) × Unit × Unit × Unit) =>
                        some ((x27.1.1 == IntKind.u16.wrap (IntKind.i64.wrap (y13 - (1 : Int))), ()), (), (), ()))
                      none)
                    none)
                  (some ((false, ()), (), (), ())))
                (some ((false, ()), (), (), ())))
              (some ((false, ()), (), (), ()))))))
def lStoreFull_L2 (K : Nat) (rec3 : Int ×
    Int × (Int × Int × Int × List ((Int × Int) × List (Int × Int)) × Unit) × List ((Int × Int) × Int) × Int × Unit →
  Option
    ((Bool × Unit) ×
      Unit ×
        Unit ×
          Unit)) : Int × Int × (Int × Int × Int × List ((Int × Int) × List (Int × Int)) × Unit) × List ((Int × Int) × Int) × Int × Unit →
  Option ((Bool × Unit) × Unit × Unit × Unit) := fun (y5, y6, y7, y8, y9, ()) =>
  br (decide (y9 < y6))
  (br (decide ((y8.length + [(((2 : Int), y9), IntKind.u16.wrap y9)].length) * (24 : Nat) ≤ LIM))
    (br (decide (y8.length + [(((2 : Int), y9), IntKind.u16.wrap y9)].length ≤ LIM))
      (rec3
        (y5, y6, (y7.1, y7.2.1, y7.2.2.1, y7.2.2.2.1, ()), cat y8 [(((2 : Int), y9), IntKind.u16.wrap y9)], IntKind.i64.wrap (y9 + (1 : Int)),
          ()))
      none)
    none)
  (loopN lStoreFull_L1 K (y5, y6, (y7.1, y7.2.1, y7.2.2.1, y7.2.2.2.1, ()), y8, (0 : Int), (0 : Int), ()))
def lStoreFull_P (K : Nat) (a0 : Int) (a1 : Int) : Option ((Bool × Unit) × Unit × Unit × Unit) :=
  br (!true) (some ((false, ()), (), (), ()))
  (bd (grd (true && decide ((30 : Int) < (4611686018427387904 : Int))) ((a0 % (30 : Int), ()), (), (), ()))
    fun (x1 : (Int × Unit) × Unit × Unit × Unit) =>
    bd (grd (true && decide ((9 : Int) < (4611686018427387904 : Int))) ((a1 % (9 : Int), ()), (), (), ()))
      fun (x2 : (Int × Unit) × Unit × Unit × Unit) =>
      loopN (lStoreFull_L2 K) K
        (x1.1.1, IntKind.i64.wrap ((1 : Int) + x2.1.1),
          ((stNewS (0 : Int) x1.1.1).1, (stNewS (0 : Int) x1.1.1).2.1, (stNewS (0 : Int) x1.1.1).2.2.1, (stNewS (0 : Int) x1.1.1).2.2.2.1,
            ()),
          [], (0 : Int), ()))
theorem lStoreFull_rn (K : Nat) (a0 : Int) (a1 : Int) : runF (cfgW g_lStoreFull) K f_lStoreFull lStoreFull_tm [.val tI, .val tI] [.val .bool] (a0, a1, ()) = lStoreFull_P K a0 a1 := by kernel_rfl
end
end Go.BB
