/- A symbolic machine for the model's code, and what it shows of this seat's functions. No conditions. -/
import Derived.Test.YtnofmeckcimodaaBN
import Derived.Test.YtnofmeckcimodaaBGstore3
import Derived.Test.YtnofmeckcimodaaBLawStoreO
import Derived.Test.YtnofmeckcimodaaBVgc
set_option linter.unusedSimpArgs false
set_option linter.unusedVariables false
namespace Go.BB
open Go Go.Proofs
set_option maxRecDepth 100000
set_option exponentiation.threshold 100000
noncomputable section
abbrev g_someK : List (Nat × Ctr O0) := [(n_within, c_within)]
def someK_tm : List Tm := []
def someK_P (K : Nat) (a0 : List Int) (a1 : Int) : Option ((List Int × Unit) × Unit × Unit × Unit) :=
  bd
  (grd
    (decide ((0 : Int) < IntKind.i64.wrap ((↑a0.length : Int) + (1 : Int))) &&
      decide (IntKind.i64.wrap ((↑a0.length : Int) + (1 : Int)) < (4611686018427387904 : Int)))
    ((a1 % IntKind.i64.wrap ((↑a0.length : Int) + (1 : Int)), ()), (), (), ()))
  fun (x1 : (Int × Unit) × Unit × Unit × Unit) =>
  bd
    (grd (true && decide ((4 : Int) < (4611686018427387904 : Int)))
      (((↑a0.length : Int) % (4 : Int), ()), (), (), ()))
    fun (x2 : (Int × Unit) × Unit × Unit × Unit) =>
    br (decide ((0 : Int) ≤ x1.1.1))
      (br (decide (x1.1.1 ≤ minI (IntKind.i64.wrap (IntKind.i64.wrap (x1.1.1 + (1 : Int)) + x2.1.1)) (↑a0.length : Int)))
        (br (decide (minI (IntKind.i64.wrap (IntKind.i64.wrap (x1.1.1 + (1 : Int)) + x2.1.1)) (↑a0.length : Int) ≤ (↑a0.length : Int)))
          (some
            ((List.take ((minI (IntKind.i64.wrap (IntKind.i64.wrap (x1.1.1 + (1 : Int)) + x2.1.1)) (↑a0.length : Int)).toNat - x1.1.1.toNat)
                  (List.drop x1.1.1.toNat a0),
                ()),
              (), (), ()))
          none)
        none)
      none
theorem someK_rn (K : Nat) (a0 : List
  Int) (a1 : Int) : runF (cfgW g_someK) K f_someK someK_tm [.val (.slice tI), .val tI] [.val (.slice tI)] (a0, a1, ()) = someK_P K a0 a1 := by kernel_rfl
abbrev g_sameSt : List (Nat × Ctr O0) := [(n_within, c_within), (n_key, c_key), (n_stRead, c_stRead), (n_rstRead, c_rstRead), (n_stNewest, c_stNewest), (n_rstNewest, c_rstNewest), (n_stLast, c_stLast), (n_stVersions, c_stVersions), (n_rstVersions, c_rstVersions), (n_stKeys, c_stKeys)]
def sameSt_tm : List Tm := [[((0 : Nat), some (0 : Nat),
      ((Sh.val (Ty.int IntKind.u64)).cons
          ((Sh.val (Ty.int IntKind.i64)).cons
            ((Sh.val (Ty.int IntKind.i64)).cons
              ((Sh.map (MapK.mapS ((Ty.int IntKind.i64).pair (Ty.int IntKind.i64)) ((Ty.int IntKind.u64).pair (Ty.int IntKind.u16)))).cons
                Sh.unit)))).ptr),
    ((1 : Nat), none,
      Sh.rop
        ((Ty.int IntKind.u64).pair
          ((Ty.int IntKind.i64).pair
            ((((Ty.int IntKind.i64).pair (Ty.int IntKind.i64)).pair ((Ty.int IntKind.u64).pair (Ty.int IntKind.u16)).slice).slice.pair Ty.unit)))),
    ((2 : Nat), none, Sh.val (Ty.int IntKind.i64)), ((3 : Nat), none, Sh.val (Ty.int IntKind.u64)), ((9 : Nat), none, Sh.val (Ty.int IntKind.i64))]]
def sameSt_L1 (rec1 : (Int × Int × Int × List ((Int × Int) × List (Int × Int)) × Unit) ×
    (Int × Int × List ((Int × Int) × List (Int × Int)) × Unit) × Int × Int × Int × Unit →
  Option
    ((Bool × Unit) ×
      (Int × Int × Int × List ((Int × Int) × List (Int × Int)) × Unit) ×
        Unit ×
          Unit ×
            Unit ×
              Unit)) : (Int × Int × Int × List ((Int × Int) × List (Int × Int)) × Unit) ×
    (Int × Int × List ((Int × Int) × List (Int × Int)) × Unit) × Int × Int × Int × Unit →
  Option
    ((Bool × Unit) ×
      (Int × Int × Int × List ((Int × Int) × List (Int × Int)) × Unit) × Unit × Unit × Unit × Unit) := fun (y3, y4, y5, y6, y7, ()) =>
  br (decide (y7 < (8 : Int)))
  (bd
    (grd (decide ((0 : Int) < (100000 : Int)) && decide ((100000 : Int) < (4611686018427387904 : Int)))
      ((y5 % (100000 : Int), ()), (), (), ()))
    fun (x8 : (Int × Unit) × Unit × Unit × Unit) =>
    bd
      (grd (stoOk (y3.1, y3.2.1, y3.2.2.1, y3.2.2.2.1, ()))
        ((atV
              (chnOf y3.2.2.2.1
                ((keyS (IntKind.i64.wrap (x8.1.1 + IntKind.i64.wrap ((37 : Int) * y7)))).1,
                  (keyS (IntKind.i64.wrap (x8.1.1 + IntKind.i64.wrap ((37 : Int) * y7)))).2))
              y6,
            ()),
          (y3.1, y3.2.1, y3.2.2.1, y3.2.2.2.1, ()), (), (), ()))
      fun (x9 : (Int × Unit) × (Int × Int × Int × List ((Int × Int) × List (Int × Int)) × Unit) × Unit × Unit × Unit) =>
      bd
        (grd (refOk y4)
          ((atV
                (rowOf y4.2.2.1
                  ((keyS (IntKind.i64.wrap (x8.1.1 + IntKind.i64.wrap ((37 : Int) * y7)))).1,
                    (keyS (IntKind.i64.wrap (x8.1.1 + IntKind.i64.wrap ((37 : Int) * y7)))).2))
                y6,
              ()),
            (), (), (), ()))
        fun (x10 : (Int × Unit) × Unit × Unit × Unit × Unit) =>
        br (x9.1.1 != x10.1.1)
          (some
            ((false, ()), (x9.2.1.1, x9.2.1.2.1, x9.2.1.2.2.1, x9.2.1.2.2.2.1, ()), (), (), (), ()))
          (bd
            (grd (stoOk (x9.2.1.1, x9.2.1.2.1, x9.2.1.2.2.1, x9.2.1.2.2.2.1, ()))
              ((atV
                    (chnOf x9.2.1.2.2.2.1
                      ((keyS (IntKind.i64.wrap (x8.1.1 + IntKind.i64.wrap ((37 : Int) * y7)))).1,
                        (keyS (IntKind.i64.wrap (x8.1.1 + IntKind.i64.wrap ((37 : Int) * y7)))).2))
                    y4.1,
                  ()),
                (x9.2.1.1, x9.2.1.2.1, x9.2.1.2.2.1, x9.2.1.2.2.2.1, ()), (), (), ()))
            fun (x11 : (Int × Unit) × (Int × Int × Int × List ((Int × Int) × List (Int × Int)) × Unit) × Unit × Unit × Unit) =>
            bd
              (grd (refOk y4)
                ((atV
                      (rowOf y4.2.2.1
                        ((keyS (IntKind.i64.wrap (x8.1.1 + IntKind.i64.wrap ((37 : Int) * y7)))).1,
                          (keyS (IntKind.i64.wrap (x8.1.1 + IntKind.i64.wrap ((37 : Int) * y7)))).2))
                      y4.1,
                    ()),
                  (), (), (), ()))
              fun (x12 : (Int × Unit) × Unit × Unit × Unit × Unit) =>
              br (x11.1.1 != x12.1.1)
                (some
                  ((false, ()), (x11.2.1.1, x11.2.1.2.1, x11.2.1.2.2.1, x11.2.1.2.2.2.1, ()), (), (), (),
                    ()))
                (bd
                  (grd (stoOk (x11.2.1.1, x11.2.1.2.1, x11.2.1.2.2.1, x11.2.1.2.2.2.1, ()))
                    ((newS
                          (chnOf x11.2.1.2.2.2.1
                            ((keyS (IntKind.i64.wrap (x8.1.1 + IntKind.i64.wrap ((37 : Int) * y7)))).1,
                              (keyS (IntKind.i64.wrap (x8.1.1 + IntKind.i64.wrap ((37 : Int) * y7)))).2)),
                        ()),
                      (x11.2.1.1, x11.2.1.2.1, x11.2.1.2.2.1, x11.2.1.2.2.2.1, ()), (), ()))
                  fun (x13 : (Int × Unit) × (Int × Int × Int × List ((Int × Int) × List (Int × Int)) × Unit) × Unit × Unit) =>
                  bd
                    (grd (refOk y4)
                      ((newS
                            (rowOf y4.2.2.1
                              ((keyS (IntKind.i64.wrap (x8.1.1 + IntKind.i64.wrap ((37 : Int) * y7)))).1,
                                (keyS (IntKind.i64.wrap (x8.1.1 + IntKind.i64.wrap ((37 : Int) * y7)))).2)),
                          ()),
                        (), (), ()))
                    fun (x14 : (Int × Unit) × Unit × Unit × Unit) =>
                    br (x13.1.1 != x14.1.1)
                      (some
                        ((false, ()), (x13.2.1.1, x13.2.1.2.1, x13.2.1.2.2.1, x13.2.1.2.2.2.1, ()), (), (),
                          (), ()))
                      (rec1
                        ((x13.2.1.1, x13.2.1.2.1, x13.2.1.2.2.1, x13.2.1.2.2.2.1, ()), y4, y5, y6, IntKind.i64.wrap (y7 + (1 : Int)),
                          ())))))
  (br (y3.1 == y4.1)
    (bd (grd (lenOk y4.2.2.1 && decide (chsLen y4.2.2.1 ≤ (1048576 : Nat))) (((↑(chsLen y4.2.2.1) : Int), ()), (), ()))
      fun (x15 : (Int × Unit) × Unit × Unit) =>
      br (y3.2.1 == x15.1.1)
        (some
          (((↑y3.2.2.2.1.length : Int) == (↑y4.2.2.1.length : Int), ()), (y3.1, y3.2.1, y3.2.2.1, y3.2.2.2.1, ()), (),
            (), (), ()))
        (some ((false, ()), (y3.1, y3.2.1, y3.2.2.1, y3.2.2.2.1, ()), (), (), (), ())))
    (some ((false, ()), (y3.1, y3.2.1, y3.2.2.1, y3.2.2.2.1, ()), (), (), (), ())))
def sameSt_P (K : Nat) (a0 : Int ×
  Int ×
    Int ×
      List ((Int × Int) × List (Int × Int)) ×
        Unit) (a1 : Int ×
  Int ×
    List ((Int × Int) × List (Int × Int)) ×
      Unit) (a2 : Int) (a3 : Int) : Option
  ((Bool × Unit) × (Int × Int × Int × List ((Int × Int) × List (Int × Int)) × Unit) × Unit × Unit × Unit × Unit) :=
  loopN sameSt_L1 K ((a0.1, a0.2.1, a0.2.2.1, a0.2.2.2.1, ()), a1, a2, a3, (0 : Int), ())
theorem sameSt_rn (K : Nat) (a0 : Int ×
  Int ×
    Int ×
      List ((Int × Int) × List (Int × Int)) ×
        Unit) (a1 : Int ×
  Int ×
    List ((Int × Int) × List (Int × Int)) ×
      Unit) (a2 : Int) (a3 : Int) : runF (cfgW g_sameSt) K f_sameSt sameSt_tm [.box shStore, .rop tRef, .val tI, .val tU] [.val .bool] (a0, a1, a2, a3, ()) = sameSt_P K a0 a1 a2 a3 := by kernel_rfl
end
end Go.BB
set_option linter.unusedSimpArgs false
set_option linter.unusedVariables false
namespace Go.BB
open Go Go.Proofs
set_option maxRecDepth 100000
theorem v_someK : Valid Try.prog n_someK c_someK := by
  refine valid_fn mixed hf_someK (by kernel_rfl) rfl (ts := tmpsOf f_someK.results.toList) (by kernel_rfl) (cfg := cfgW g_someK) tt_ok (Γok_cons v_within Γok_nil) someK_tm c_someK (by kernel_rfl) (fun x _ u _ => Kept_vals [.slice tI, tI] x u) ?_
  rintro ⟨(ks : List Int), (n : Int), ⟨⟩⟩ r u h
  refine ⟨3, (someK_rn _ _ _).trans (Eq.trans ?_ h)⟩
  obtain ⟨h1, _⟩ := grd_some h
  have hl : ks.length ≤ 100000 := by simpa using h1
  refine Eq.trans ?_ (grd_t h1).symm
  unfold someK_P
  rw [wrapI (n := (ks.length : Int) + 1) (by omega) (by omega)]
  rw [bd_grd (and_t (decide_eq_true (by omega)) (decide_eq_true (by omega))), bd_grd (by decide)]
  simp only
  have a0 := Int.emod_nonneg n (show (ks.length : Int) + 1 ≠ 0 by omega)
  have a1 := Int.emod_lt_of_pos n (show (0 : Int) < (ks.length : Int) + 1 by omega)
  generalize n % ((ks.length : Int) + 1) = a at a0 a1
  have b0 := Int.emod_nonneg (ks.length : Int) (show (4 : Int) ≠ 0 by decide)
  have b1 := Int.emod_lt_of_pos (ks.length : Int) (show (0 : Int) < 4 by decide)
  have hb : (ks.length : Int) % 4 = ((ks.length % 4 : Nat) : Int) := by omega
  rw [hb]
  generalize hm : ks.length % 4 = b
  rw [wrapI (n := a + 1) (by omega) (by omega), wrapI (n := a + 1 + (b : Int)) (by omega) (by omega), minI_eq]
  rw [br_dt (by omega), br_dt (by omega), br_dt (by omega)]
  have e : (ks.drop a.toNat).take ((min (a + 1 + (b : Int)) (ks.length : Int)).toNat - a.toNat) = (ks.drop a.toNat).take (1 + b) := by
    rw [List.take_eq_take_iff, List.length_drop]
    omega
  rw [e]
  rfl
end Go.BB
/-! contracts of spans' sums, views, and what was written since -/
namespace Go.BB
open Go
abbrev Vw := Int × List Spn × List Cel
def mergeS (s x : Spn) : Spn := (s.1, min s.2.1 x.2.1, max s.2.2 x.2.2)
/-- all addresses of l and of s, for canonical l -/
def addGo : List Spn → Spn → List Spn
  | [], s => [s]
  | x :: l, s => if aheadS x s then x :: addGo l s else if aheadS s x then s :: x :: l else addGo l (mergeS s x)
def addAll (l r : List Spn) : List Spn := r.foldl addGo l
def bothS (a b : Spn) : Spn := if a.1 ≠ b.1 then (0, 0, 0) else (a.1, max a.2.1 b.2.1, min a.2.2 b.2.2)
def coverS (l : List Spn) (s : Spn) : Bool := l.any fun x => decide (x.1 = s.1) && (decide (x.2.1 ≤ s.2.1) && decide (s.2.2 ≤ x.2.2))
def spansS (ks : List Int) : List Spn := (ks.take 20).foldl (fun l k => addGo l (spanS k)) []
/-- what stands at n keys from a on -/
def lookN (f : Key → Int) (w : List Cel) (t a : Int) : Nat → List Int
  | 0 => []
  | n + 1 => (if (getK w (t, a)).2 then (getK w (t, a)).1 else f (t, a)) :: lookN f w t (a + 1) n
def lookP (m : Chs) (v : Vw) (s : Spn) : List Int := lookN (fun k => atV (chnOf m k) v.1) v.2.2 s.1 s.2.1 (s.2.2 - s.2.1).toNat
def lookD (m : List Row) (v : Vw) (s : Spn) : List Int := lookN (fun k => atV (rowOf m k) v.1) v.2.2 s.1 s.2.1 (s.2.2 - s.2.1).toNat
def viewOk (v : Vw) : Bool := canonS v.2.1 && (bufS v.2.2 && (decide (v.2.1.length ≤ 100000) && decide (v.2.2.length ≤ 100000)))
def readsS (v : Vw) (s : Spn) : List Spn := addAll v.2.1 (restS v.2.2 s)
def viewRead (v : Vw) (s : Spn) (most : Int) (l : List Int) : (Vw × List Int) × Int :=
  if ((readsS v s).length : Int) > most then ((v, []), 4) else (((v.1, readsS v s, v.2.2), l), 0)
def writesS (v : Vw) (l : List Cel) : List Cel := l.foldl putK v.2.2
def viewWrite (v : Vw) (l : List Cel) (most : Int) : Vw × Int :=
  if ((writesS v l).length : Int) > most then (v, 4) else ((v.1, v.2.1, writesS v l), 0)
def rightsS (l : List Spn) : Bool := l.all spanR
/-- the first key of n from a on that was written since -/
def clashN (f : Key → Int) (since t a : Int) : Nat → Key × Bool
  | 0 => ((0, 0), false)
  | n + 1 => if f (t, a) ≤ since then clashN f since t (a + 1) n else ((t, a), true)
def clashL (f : Key → Int) (since : Int) : List Spn → Key × Bool
  | [] => ((0, 0), false)
  | s :: l => if (clashN f since s.1 s.2.1 (s.2.2 - s.2.1).toNat).2 then clashN f since s.1 s.2.1 (s.2.2 - s.2.1).toNat else clashL f since l
def clashP (m : Chs) (l : List Spn) (since : Int) : Key × Bool := clashL (fun k => newS (chnOf m k)) since l
def clashD : List Row → List Spn → Int → Key × Bool
  | [], _, _ => ((0, 0), false)
  | r :: m, l, since => if newS r.2 > since && hasS l r.1 then (r.1, true) else clashD m l since
abbrev c_spanAhead : Ctr O0 := ⟨[.val tSpan, .val tSpan], [.val .bool], fun (x : Spn × Spn × Unit) => some ((aheadS x.1 x.2.1, ()), ((), (), ()))⟩
abbrev c_spanAdd : Ctr O0 := ⟨[.val (.slice tSpan), .val tSpan], [.own tSpan], fun (x : List Spn × Spn × Unit) => grd (lenOk x.1 && (canonS x.1 && spanR x.2.1)) ((addGo x.1 x.2.1, ()), ((), (), ()))⟩
abbrev c_rspanAdd := c_spanAdd
abbrev c_rcovers : Ctr O0 := ⟨[.val (.slice tSpan), .val tSpan], [.val .bool], fun (x : List Spn × Spn × Unit) => grd (lenOk x.1) ((coverS x.1 x.2.1, ()), ((), (), ()))⟩
abbrev c_spans : Ctr O0 := ⟨[.val (.slice tI)], [.own tSpan], fun (x : List Int × Unit) => some ((spansS x.1, ()), ((), ()))⟩
abbrev c_viewOwn : Ctr O0 := ⟨[.val tView], [.val tView], fun (x : Vw × Unit) => grd (lenOk x.1.2.1 && lenOk x.1.2.2) ((x.1, ()), ((), ()))⟩
abbrev c_look : Ctr O0 := ⟨[.box shStore, .val tView, .val tSpan], [.own tW], fun (x : Sto × Vw × Spn × Unit) => grd (stoOk x.1 && (viewOk x.2.1 && spanR x.2.2.1)) ((lookP x.1.2.2.2.1 x.2.1 x.2.2.1, ()), (x.1, (), (), ()))⟩
abbrev c_viewRead : Ctr O0 := ⟨[.box shStore, .val tView, .val tSpan, .val tI], [.val tView, .own tW, .val tI], fun (x : Sto × Vw × Spn × Int × Unit) => grd (stoOk x.1 && (viewOk x.2.1 && spanR x.2.2.1)) (((viewRead x.2.1 x.2.2.1 x.2.2.2.1 (lookP x.1.2.2.2.1 x.2.1 x.2.2.1)).1.1, (viewRead x.2.1 x.2.2.1 x.2.2.2.1 (lookP x.1.2.2.2.1 x.2.1 x.2.2.1)).1.2, (viewRead x.2.1 x.2.2.1 x.2.2.2.1 (lookP x.1.2.2.2.1 x.2.1 x.2.2.1)).2, ()), (x.1, (), (), (), ()))⟩
abbrev c_viewWrite : Ctr O0 := ⟨[.val tView, .row tCell, .val tI], [.val tView, .val tI], fun (x : Vw × (List Cel × Nat) × Int × Unit) => grd (viewOk x.1 && (decide (x.2.1.1.length ≤ 100000) && decide (x.2.1.2 ≤ x.2.1.1.length))) (((viewWrite x.1 (x.2.1.1.take x.2.1.2) x.2.2.1).1, (viewWrite x.1 (x.2.1.1.take x.2.1.2) x.2.2.1).2, ()), ((), x.2.1.1, (), ()))⟩
abbrev c_rlook : Ctr O0 := ⟨[.rop tRef, .val tView, .val tSpan], [.own tW], fun (x : Ref × Vw × Spn × Unit) => grd (refOk x.1 && (viewOk x.2.1 && spanR x.2.2.1)) ((lookD x.1.2.2.1 x.2.1 x.2.2.1, ()), ((), (), (), ()))⟩
abbrev c_rviewRead : Ctr O0 := ⟨[.box shRef, .val tView, .val tSpan, .val tI], [.val tView, .own tW, .val tI], fun (x : Ref × Vw × Spn × Int × Unit) => grd (refOk x.1 && (viewOk x.2.1 && spanR x.2.2.1)) (((viewRead x.2.1 x.2.2.1 x.2.2.2.1 (lookD x.1.2.2.1 x.2.1 x.2.2.1)).1.1, (viewRead x.2.1 x.2.2.1 x.2.2.2.1 (lookD x.1.2.2.1 x.2.1 x.2.2.1)).1.2, (viewRead x.2.1 x.2.2.1 x.2.2.2.1 (lookD x.1.2.2.1 x.2.1 x.2.2.1)).2, ()), (x.1, (), (), (), ()))⟩
abbrev c_rviewWrite : Ctr O0 := ⟨[.val tView, .val (.slice tCell), .val tI], [.val tView, .val tI], fun (x : Vw × List Cel × Int × Unit) => grd (viewOk x.1 && decide (x.2.1.length ≤ 100000)) (((viewWrite x.1 x.2.1 x.2.2.1).1, (viewWrite x.1 x.2.1 x.2.2.1).2, ()), ((), (), (), ()))⟩
abbrev c_clash : Ctr O0 := ⟨[.box shStore, .val (.slice tSpan), .val tU], [.val tKey, .val .bool], fun (x : Sto × List Spn × Int × Unit) => grd (stoOk x.1 && (lenOk x.2.1 && rightsS x.2.1)) (((clashP x.1.2.2.2.1 x.2.1 x.2.2.1).1, (clashP x.1.2.2.2.1 x.2.1 x.2.2.1).2, ()), (x.1, (), (), ()))⟩
abbrev c_fresh : Ctr O0 := ⟨[.box shStore, .val (.slice tSpan), .val tU], [.val .bool], fun (x : Sto × List Spn × Int × Unit) => grd (stoOk x.1 && (lenOk x.2.1 && rightsS x.2.1)) ((!(clashP x.1.2.2.2.1 x.2.1 x.2.2.1).2, ()), (x.1, (), (), ()))⟩
abbrev c_rclash : Ctr O0 := ⟨[.rop tRef, .val (.slice tSpan), .val tU], [.val tKey, .val .bool], fun (x : Ref × List Spn × Int × Unit) => grd (refOk x.1 && lenOk x.2.1) (((clashD x.1.2.2.1 x.2.1 x.2.2.1).1, (clashD x.1.2.2.1 x.2.1 x.2.2.1).2, ()), ((), (), (), ()))⟩
/-- two stores behind some installs by numbers -/
def storesGo : Nat → Sto × Ref → List Int → Sto × Ref
  | 0, p, _ => p
  | n + 1, p, ks => if ks = [] then p else storesGo n ((instS p.1 (cellsS (ks.take 3))).2, (rinstS p.2 (cellsS (ks.take 3))).2) (ks.drop 3)
def storesS (ks : List Int) : Sto × Ref := storesGo 14 (stNewS 0 10000, rstNewS 0 10000) ks
abbrev c_stores : Ctr O0 := ⟨[.val (.slice tI)], [.box shStore, .box shRef], fun (x : List Int × Unit) => grd (lenOk x.1) (((storesS x.1).1, (storesS x.1).2, ()), ((), ()))⟩
def sameVw (v w : Vw) : Bool := decide (v = w)
abbrev c_sameView : Ctr O0 := ⟨[.val tView, .val tView], [.val .bool], fun (x : Vw × Vw × Unit) => grd (viewOk x.1 && viewOk x.2.1) ((sameVw x.1 x.2.1, ()), ((), (), ()))⟩
def shortS (k : Int) : Spn := ((spanS k).1, (spanS k).2.1, min (spanS k).2.2 ((spanS k).2.1 + 60))
abbrev c_short : Ctr O0 := ⟨[.val tI], [.val tSpan], fun (x : Int × Unit) => some ((shortS x.1, ()), ((), ()))⟩
abbrev c_awake19 := c_awake
abbrev c_awake20 := c_awake
end Go.BB
