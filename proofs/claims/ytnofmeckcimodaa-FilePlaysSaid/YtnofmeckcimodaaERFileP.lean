/- A symbolic machine for the model's code, and what it shows of this seat's functions. No conditions. -/
import Derived.Test.YtnofmeckcimodaaEN
import Derived.Test.YtnofmeckcimodaaESFdo
import Derived.Test.YtnofmeckcimodaaEGffa
import Derived.Test.YtnofmeckcimodaaRows
import Derived.WalkKit
import Derived.ProofKit
set_option linter.unusedSimpArgs false
set_option linter.unusedVariables false
namespace Go.BB
open Go Go.Proofs
set_option maxRecDepth 100000
set_option exponentiation.threshold 100000
noncomputable section
abbrev g_lFileLast : List (Nat × Ctr O0) := [(n_awake27, c_awake27), (n_fnew, c_fnew), (n_cell, c_cell), (n_fset, c_fset), (n_rput, c_rput), (n_key, c_key), (n_fget, c_fget), (n_rbget, c_rbget), (n_ask, c_ask), (n_r5Spans, c_r5Spans), (n_fdo, c_fdo)]
def lFileLast_tm : List Tm := [[((0 : Nat), none, Sh.val (Ty.int IntKind.i64).slice), ((1 : Nat), none, Sh.val (Ty.int IntKind.i64)), ((2 : Nat), none, Sh.val (Ty.int IntKind.i64)), ((3 : Nat), none, Sh.val (Ty.int IntKind.i64)), ((9 : Nat), none, ((Sh.map (MapK.map ((Ty.int IntKind.i64).pair (Ty.int IntKind.i64)) (Ty.int IntKind.u16))).cons Sh.unit).ptr), ((10 : Nat), none, Sh.own (((Ty.int IntKind.i64).pair (Ty.int IntKind.i64)).pair (Ty.int IntKind.u16))), ((11 : Nat), none, Sh.val (Ty.int IntKind.i64))]]
def lFileLast_L1 (rec1 : List Int × Int × Int × Int × (List ((Int × Int) × Int) × Unit) × List ((Int × Int) × Int) × Int × Unit → Option ((Bool × Unit) × Unit × Unit × Unit × Unit × Unit)) : List Int × Int × Int × Int × (List ((Int × Int) × Int) × Unit) × List ((Int × Int) × Int) × Int × Unit → Option ((Bool × Unit) × Unit × Unit × Unit × Unit × Unit) := fun (y3, y4, y5, y6, y7, y8, y9, ()) => br (decide (y9 < (↑y3.length : Int))) (br (decide ((0 : Int) ≤ y9)) (br (decide (y9 < (↑y3.length : Int))) (bd (grd (lenOk [(((cellS (y3.getD y9.toNat (0 : Int))).1.1, (cellS (y3.getD y9.toNat (0 : Int))).1.2), (cellS (y3.getD y9.toNat (0 : Int))).2)]) ((), (setF y7.1 [(((cellS (y3.getD y9.toNat (0 : Int))).1.1, (cellS (y3.getD y9.toNat (0 : Int))).1.2), (cellS (y3.getD y9.toNat (0 : Int))).2)], ()), (), ())) fun (x10 : Unit × (List ((Int × Int) × Int) × Unit) × Unit × Unit) => bd (grd (lenOk y8 && bufS y8) ((putK y8 (((cellS (y3.getD y9.toNat (0 : Int))).1.1, (cellS (y3.getD y9.toNat (0 : Int))).1.2), (cellS (y3.getD y9.toNat (0 : Int))).2), ()), (), (), ())) fun (x11 : (List ((Int × Int) × Int) × Unit) × Unit × Unit × Unit) => rec1 (y3, y4, y5, y6, (x10.2.1.1, ()), x11.1.1, IntKind.i64.wrap (y9 + (1 : Int)), ())) none) none) (bd (grd (lenOk y8 && bufS y8) (((getK y8 ((keyS y6).1, (keyS y6).2)).1, (getK y8 ((keyS y6).1, (keyS y6).2)).2, ()), (), (), ())) fun (x12 : (Int × Bool × Unit) × Unit × Unit × Unit) => br (getF y7.1 ((keyS y6).1, (keyS y6).2) != x12.1.1) (some ((false, ()), (), (), (), (), ())) (bd (grd (askLen ((askS y4 y5).1, (askS y4 y5).2.1, (askS y4 y5).2.2.1, (askS y4 y5).2.2.2.1, (askS y4 y5).2.2.2.2.1, (askS y4 y5).2.2.2.2.2.1, (askS y4 y5).2.2.2.2.2.2.1, (askS y4 y5).2.2.2.2.2.2.2.1, (askS y4 y5).2.2.2.2.2.2.2.2.1, (askS y4 y5).2.2.2.2.2.2.2.2.2.1, (askS y4 y5).2.2.2.2.2.2.2.2.2.2.1, (askS y4 y5).2.2.2.2.2.2.2.2.2.2.2) && askW ((askS y4 y5).1, (askS y4 y5).2.1, (askS y4 y5).2.2.1, (askS y4 y5).2.2.2.1, (askS y4 y5).2.2.2.2.1, (askS y4 y5).2.2.2.2.2.1, (askS y4 y5).2.2.2.2.2.2.1, (askS y4 y5).2.2.2.2.2.2.2.1, (askS y4 y5).2.2.2.2.2.2.2.2.1, (askS y4 y5).2.2.2.2.2.2.2.2.2.1, (askS y4 y5).2.2.2.2.2.2.2.2.2.2.1, (askS y4 y5).2.2.2.2.2.2.2.2.2.2.2)) (((doF y7.1 ((askS y4 y5).1, (askS y4 y5).2.1, (askS y4 y5).2.2.1, (askS y4 y5).2.2.2.1, (askS y4 y5).2.2.2.2.1, (askS y4 y5).2.2.2.2.2.1, (askS y4 y5).2.2.2.2.2.2.1, (askS y4 y5).2.2.2.2.2.2.2.1, (askS y4 y5).2.2.2.2.2.2.2.2.1, (askS y4 y5).2.2.2.2.2.2.2.2.2.1, (askS y4 y5).2.2.2.2.2.2.2.2.2.2.1, (askS y4 y5).2.2.2.2.2.2.2.2.2.2.2)).1.1, (doF y7.1 ((askS y4 y5).1, (askS y4 y5).2.1, (askS y4 y5).2.2.1, (askS y4 y5).2.2.2.1, (askS y4 y5).2.2.2.2.1, (askS y4 y5).2.2.2.2.2.1, (askS y4 y5).2.2.2.2.2.2.1, (askS y4 y5).2.2.2.2.2.2.2.1, (askS y4 y5).2.2.2.2.2.2.2.2.1, (askS y4 y5).2.2.2.2.2.2.2.2.2.1, (askS y4 y5).2.2.2.2.2.2.2.2.2.2.1, (askS y4 y5).2.2.2.2.2.2.2.2.2.2.2)).1.2, ()), ((doF y7.1 ((askS y4 y5).1, (askS y4 y5).2.1, (askS y4 y5).2.2.1, (askS y4 y5).2.2.2.1, (askS y4 y5).2.2.2.2.1, (askS y4
 y5).2.2.2.2.2.1, (askS y4 y5).2.2.2.2.2.2.1, (askS y4 y5).2.2.2.2.2.2.2.1, (askS y4 y5).2.2.2.2.2.2.2.2.1, (askS y4 y5).2.2.2.2.2.2.2.2.2.1, (askS y4 y5).2.2.2.2.2.2.2.2.2.2.1, (askS y4 y5).2.2.2.2.2.2.2.2.2.2.2)).2, ()), (), ())) fun (x13 : (TellT × Bool × Unit) × (List ((Int × Int) × Int) × Unit) × Unit × Unit) => br ((↑(spansA ((askS y4 y5).1, (askS y4 y5).2.1, (askS y4 y5).2.2.1, (askS y4 y5).2.2.2.1, (askS y4 y5).2.2.2.2.1, (askS y4 y5).2.2.2.2.2.1, (askS y4 y5).2.2.2.2.2.2.1, (askS y4 y5).2.2.2.2.2.2.2.1, (askS y4 y5).2.2.2.2.2.2.2.2.1, (askS y4 y5).2.2.2.2.2.2.2.2.2.1, (askS y4 y5).2.2.2.2.2.2.2.2.2.2.1, (askS y4 y5).2.2.2.2.2.2.2.2.2.2.2)).2.length : Int) == (0 : Int)) (some ((getF x13.2.1.1 ((keyS y6).1, (keyS y6).2) == x12.1.1, ()), (), (), (), (), ())) (br (!x13.1.2.1) (some ((getF x13.2.1.1 ((keyS y6).1, (keyS y6).2) == x12.1.1, ()), (), (), (), (), ())) (br (decide ((0 : Int) < (↑(spansA ((askS y4 y5).1, (askS y4 y5).2.1, (askS y4 y5).2.2.1, (askS y4 y5).2.2.2.1, (askS y4 y5).2.2.2.2.1, (askS y4 y5).2.2.2.2.2.1, (askS y4 y5).2.2.2.2.2.2.1, (askS y4 y5).2.2.2.2.2.2.2.1, (askS y4 y5).2.2.2.2.2.2.2.2.1, (askS y4 y5).2.2.2.2.2.2.2.2.2.1, (askS y4 y5).2.2.2.2.2.2.2.2.2.2.1, (askS y4 y5).2.2.2.2.2.2.2.2.2.2.2)).2.length : Int))) (br ((keyS y6).1 != ((spansA ((askS y4 y5).1, (askS y4 y5).2.1, (askS y4 y5).2.2.1, (askS y4 y5).2.2.2.1, (askS y4 y5).2.2.2.2.1, (askS y4 y5).2.2.2.2.2.1, (askS y4 y5).2.2.2.2.2.2.1, (askS y4 y5).2.2.2.2.2.2.2.1, (askS y4 y5).2.2.2.2.2.2.2.2.1, (askS y4 y5).2.2.2.2.2.2.2.2.2.1, (askS y4 y5).2.2.2.2.2.2.2.2.2.2.1, (askS y4 y5).2.2.2.2.2.2.2.2.2.2.2)).2.getD (Int.toNat (0 : Int)) ((0 : Int), (0 : Int), (0 : Int))).1) (some ((getF x13.2.1.1 ((keyS y6).1, (keyS y6).2) == x12.1.1, ()), (), (), (), (), ())) (br (decide ((0 : Int) < (↑(spansA ((askS y4 y5).1, (askS y4 y5).2.1, (askS y4 y5).2.2.1, (askS y4 y5).2.2.2.1, (askS y4 y5).2.2.2.2.1, (askS y4 y5).2.2.2.2.2.1, (askS y4 y5).2.2.2.2.2.2.1, (askS y4 y5).2.2.2.2.2.2.2.1, (askS y4 y5).2.2.2.2.2.2.2.2.1, (askS y4 y5).2.2.2.2.2.2.2.2.2.1, (askS y4 y5).2.2.2.2.2.2.2.2.2.2.1, (askS y4 y5).2.2.2.2.2.2.2.2.2.2.2)).2.length : Int))) (br (decide ((keyS y6).2 < ((spansA ((askS y4 y5).1, (askS y4 y5).2.1, (askS y4 y5).2.2.1, (askS y4 y5).2.2.2.1, (askS y4 y5).2.2.2.2.1, (askS y4 y5).2.2.2.2.2.1, (askS y4 y5).2.2.2.2.2.2.1, (askS y4 y5).2.2.2.2.2.2.2.1, (askS y4 y5).2.2.2.2.2.2.2.2.1, (askS y4 y5).2.2.2.2.2.2.2.2.2.1, (askS y4 y5).2.2.2.2.2.2.2.2.2.2.1, (askS y4 y5).2.2.2.2.2.2.2.2.2.2.2)).2.getD (Int.toNat (0 : Int)) ((0 : Int), (0 : Int), (0 : Int))).2.1)) (some ((getF x13.2.1.1 ((keyS y6).1, (keyS y6).2) == x12.1.1, ()), (), (), (), (), ())) (br (decide ((0 : Int) < (↑(spansA ((askS y4 y5).1, (askS y4 y5).2.1, (askS y4 y5).2.2.1, (askS y4 y5).2.2.2.1, (askS y4 y5).2.2.2.2.1, (askS y4 y5).2.2.2.2.2.1, (askS y4 y5).2.2.2.2.2.2.1, (askS y4 y5).2.2.2.2.2.2.2.1, (askS y4 y5).2.2.2.2.2.2.2.2.1, (askS y4 y5).2.2.2.2.2.2.2.2.2.1, (askS y4 y5).2.2.2.2.2.2.2.2.2.2.1, (askS y4
 y5).2.2.2.2.2.2.2.2.2.2.2)).2.length : Int))) (br (decide ((keyS y6).2 ≥ ((spansA ((askS y4 y5).1, (askS y4 y5).2.1, (askS y4 y5).2.2.1, (askS y4 y5).2.2.2.1, (askS y4 y5).2.2.2.2.1, (askS y4 y5).2.2.2.2.2.1, (askS y4 y5).2.2.2.2.2.2.1, (askS y4 y5).2.2.2.2.2.2.2.1, (askS y4 y5).2.2.2.2.2.2.2.2.1, (askS y4 y5).2.2.2.2.2.2.2.2.2.1, (askS y4 y5).2.2.2.2.2.2.2.2.2.2.1, (askS y4 y5).2.2.2.2.2.2.2.2.2.2.2)).2.getD (Int.toNat (0 : Int)) ((0 : Int), (0 : Int), (0 : Int))).2.2)) (some ((getF x13.2.1.1 ((keyS y6).1, (keyS y6).2) == x12.1.1, ()), (), (), (), (), ())) (br ((askS y4 y5).1 != (6 : Int)) (some ((true, ()), (), (), (), (), ())) (some ((getF x13.2.1.1 ((keyS y6).1, (keyS y6).2) == (askS y4 y5).2.2.2.1, ()), (), (), (), (), ())))) none)) none)) none))))
def lFileLast_P (K : Nat) (a0 : List Int) (a1 : Int) (a2 : Int) (a3 : Int) : Option ((Bool × Unit) × Unit × Unit × Unit × Unit × Unit) := br (decide ((↑a0.length : Int) > (40 : Int))) (some ((true, ()), (), (), (), (), ())) (br (!true) (some ((true, ()), (), (), (), (), ())) (loopN lFileLast_L1 K (a0, a1, a2, a3, ([], ()), [], (0 : Int), ())))
theorem lFileLast_rn (K : Nat) (a0 : List Int) (a1 : Int) (a2 : Int) (a3 : Int) : runF (cfgW g_lFileLast) K f_lFileLast lFileLast_tm [.val (.slice tI), .val tI, .val tI, .val tI] [.val .bool] (a0, a1, a2, a3, ()) = lFileLast_P K a0 a1 a2 a3 := by kernel_rfl
end
end Go.BB
set_option linter.unusedSimpArgs false
set_option linter.unusedVariables false
namespace Go.BB
open Go Go.Proofs
set_option maxRecDepth 100000
/-! a register that is masked -/
theorem br_ok {c : Bool} {A B r : LawRes4} (hc : c = true) (hA : A = r) : br c A B = r := by rw [hc]; exact hA
theorem setF_cons {m : Regs} {c : Cel} {l : List Cel} (h : keyR c.1 = true) : setF m (c :: l) = setF (mset eqK m c.1 c.2) l := by
  show setF (if keyR c.1 then mset eqK m c.1 c.2 else m) l = _
  rw [if_pos h]
theorem setF_nil (m : Regs) : setF m [] = m := rfl
theorem keyR_of {t a : Int} (h1 : 0 ≤ t) (h2 : t < 4) (h3 : 0 ≤ a) (h4 : a < 65536) : keyR (t, a) = true := and_t (decide_eq_true h1) (and_t (decide_eq_true h2) (and_t (decide_eq_true h3) (decide_eq_true h4)))
theorem spanR_of {t a b : Int} (h1 : 0 ≤ t) (h2 : t < 4) (h3 : 0 ≤ a) (h4 : b ≤ 65536) (h5 : a < b) : spanR (t, a, b) = true := spanR_iff.2 ⟨h1, h2, h3, h4, h5⟩
theorem beyond1 {s : Spn} (h : spanR s = true) : beyond [s] = false := by simp [beyond, h]
theorem beyond2 {s t : Spn} (h : spanR s = true) (h' : spanR t = true) : beyond [s, t] = false := by simp [beyond, h, h']
theorem valsF3 (m : Regs) (t a : Int) : valsF m (t, a, a + 3) = [getF m (t, a), getF m (t, a + 1), getF m (t, a + 2)] := by
  unfold valsF
  have e : (a + 3 - a).toNat = 3 := by omega
  simp only [e]
  show [getF m (t, a + ((0 : Nat) : Int)), getF m (t, a + ((1 : Nat) : Int)), getF m (t, a + ((2 : Nat) : Int))] = _
  rw [show a + ((0 : Nat) : Int) = a by omega]; rfl
theorem do22 (m : Regs) (at1 an o : Int) (h0 : 0 ≤ at1) (h1 : at1 < 65000) : doF m (22, at1, 0, 0, an, o, [], [], 0, 0, 0, 0) = (((22, 0, [], [], at1, 0, 0, an, o, 0, 0, false, 0, []), true), mset eqK m (2, at1) (maskN (getF m (2, at1)) an o)) := by
  have hp : placeN at1 = true := and_t (decide_eq_true h0) (decide_eq_true (by omega))
  have hk : askOk (22, at1, 0, 0, an, o, [], [], 0, 0, 0, 0) = true := and_t rfl (and_t (by simp [plainA, inN, manyF, oneF]) (and_t hp (and_t rfl rfl)))
  have hs : spansA (22, at1, 0, 0, an, o, [], [], 0, 0, 0, 0) = ([], [(2, at1, at1 + 1)]) := by
    unfold spansA
    rw [if_neg (by rw [hk]; decide)]
    rfl
  have hc : ∀ was, cellsA (22, at1, 0, 0, an, o, [], [], 0, 0, 0, 0) was = [((2, at1), maskN was an o)] := by
    intro was
    unfold cellsA
    rw [if_neg (by rw [hk]; decide)]
    rfl
  have he : echoA (22, at1, 0, 0, an, o, [], [], 0, 0, 0, 0) = (22, 0, [], [], at1, 0, 0, an, o, 0, 0, false, 0, []) := by
    unfold echoA
    rw [if_neg (by rw [hk]; decide)]
    rfl
  unfold doF
  rw [hs, hc, he]
  have hb : beyond [(2, at1, at1 + 1)] = false := beyond1 (spanR_of (by decide) (by decide) h0 (by omega) (by omega))
  rw [if_neg (by
    rintro (x | x)
    · cases x
    · exact absurd (hb.symm.trans x) (by decide))]
  show (_, setF m [((2, at1), maskN (getF m (2, at1)) an o)]) = _
  have hkr : keyR (2, at1) = true := keyR_of (by decide) (by decide) h0 (by omega)
  rw [setF_cons hkr]
  rfl
theorem do23 (m : Regs) (at1 o : Int) (h0 : 0 ≤ at1) (h1 : at1 < 65000) : doF m (23, at1 + 1, 1, 0, 0, 0, [], [o], at1, 3, 0, 0) =
    (((23, 0, [], [getF (mset eqK m (2, at1 + 1) o) (2, at1), getF (mset eqK m (2, at1 + 1) o) (2, at1 + 1), getF (mset eqK m (2, at1 + 1) o) (2, at1 + 2)], 0, 0, 0, 0, 0, 0, 0, false, 0, []), true), mset eqK m (2, at1 + 1) o) := by
  have hp : placeN (at1 + 1) = true := and_t (decide_eq_true (by omega)) (decide_eq_true (by omega))
  have hp2 : placeN at1 = true := and_t (decide_eq_true h0) (decide_eq_true (by omega))
  have hk : askOk (23, at1 + 1, 1, 0, 0, 0, [], [o], at1, 3, 0, 0) = true := and_t rfl (and_t (by simp [plainA, inN, manyF, oneF]) (and_t hp (and_t hp2 rfl)))
  have hs : spansA (23, at1 + 1, 1, 0, 0, 0, [], [o], at1, 3, 0, 0) = ([(2, at1, at1 + 3)], [(2, at1 + 1, at1 + 1 + 1)]) := by
    unfold spansA
    rw [if_neg (by rw [hk]; decide)]
    rfl
  have hc : ∀ was, cellsA (23, at1 + 1, 1, 0, 0, 0, [], [o], at1, 3, 0, 0) was = [((2, at1 + 1), o)] := by
    intro was
    unfold cellsA
    rw [if_neg (by rw [hk]; decide)]
    rfl
  unfold doF
  rw [hs, hc]
  have hb : beyond [(2, at1, at1 + 3), (2, at1 + 1, at1 + 1 + 1)] = false := beyond2 (spanR_of (by decide) (by decide) h0 (by omega) (by omega)) (spanR_of (by decide) (by decide) (by omega) (by omega) (by omega))
  rw [if_neg (by
    rintro (x | x)
    · cases x
    · exact absurd (hb.symm.trans x) (by decide))]
  show ((shownT 23 (valsF (setF m [((2, at1 + 1), o)]) (2, at1, at1 + 3)), true), setF m [((2, at1 + 1), o)]) = _
  have hkr : keyR (2, at1 + 1) = true := keyR_of (by decide) (by decide) (by omega) (by omega)
  rw [setF_cons hkr, valsF3]
  rfl
theorem lv_FileMasks : Valid Try.prog n_lFileMasks ⟨valsOf [tW, tW, tW, tI], [.val .bool], Fok (tys := [tW, tW, tW, tI]) (fun x => isW x.2.1 && isW x.2.2.1) ((), (), (), (), ())⟩ := by
  refine valid_law mixed hf_lFileMasks (by kernel_rfl) rfl (ts := tmpsOf f_lFileMasks.results.toList) (by kernel_rfl) (cfg := cfgW g_lFileMasks) tt_ok
    (Γok_cons v_awake27 (Γok_cons v_within (Γok_cons v_fnew (Γok_cons v_fset (Γok_cons v_fdo (Γok_cons v_fget Γok_nil)))))) lFileMasks_tm (by kernel_rfl) ?_
  rintro ⟨(was : Int), (an : Int), (o : Int), (at0 : Int), ⟨⟩⟩ hw
  obtain ⟨hw1, hw2⟩ := Bool.and_eq_true_iff.1 (show (isW an && isW o) = true from hw)
  refine ⟨0, (lFileMasks_rn _ _ _ _ _).trans ?_⟩
  unfold lFileMasks_P
  rw [brNTp, bd_grd (by decide)]
  simp only
  have h0 := Int.emod_nonneg at0 (show (65000 : Int) ≠ 0 by decide)
  have h1 := Int.emod_lt_of_pos at0 (show (0 : Int) < 65000 by decide)
  generalize at0 % 65000 = at1 at h0 h1 ⊢
  have hw3 : (askLen (22, at1, 0, 0, an, o, [], [], 0, 0, 0, 0) && askW (22, at1, 0, 0, an, o, [], [], 0, 0, 0, 0)) = true := and_t rfl (and_t rfl (and_t hw1 hw2))
  have hw4 : (askLen (23, at1 + 1, 1, 0, 0, 0, [], [o], at1, 3, 0, 0) && askW (23, at1 + 1, 1, 0, 0, 0, [], [o], at1, 3, 0, 0)) = true := and_t rfl rfl
  rw [bd_grd (show lenOk [(((2 : Int), at1), was)] = true from rfl)]
  simp only
  rw [bd_grd hw3, wrapI (n := at1 + 1) (by omega) (by omega)]
  simp only
  rw [bd_grd hw4]
  simp only
  have k0 := keyR_of (t := 2) (a := at1) (by decide) (by decide) h0 (by omega)
  rw [setF_cons k0, setF_nil, do22 _ _ _ _ h0 h1, getF_mset, if_pos rfl]
  simp only
  rw [do23 _ _ _ h0 h1]
  simp only
  have hne1 : ((2, at1) : Key) ≠ (2, at1 + 1) := fun e => by have := congrArg Prod.snd e; simp only at this; omega
  have hne2 : ((2, at1 + 2) : Key) ≠ (2, at1 + 1) := fun e => by have := congrArg Prod.snd e; simp only at this; omega
  have hne3 : ((2, at1 + 2) : Key) ≠ (2, at1) := fun e => by have := congrArg Prod.snd e; simp only at this; omega
  obtain ⟨w1, w2⟩ := (isW_iff' an).1 hw1
  have hm := maskN_eq was (an := an) o w1 w2
  refine br_ok rfl (br_ok rfl (br_ok rfl (br_ok (beq_self_eq_true _) ?_)))
  rw [getF_mset, if_pos rfl]
  refine br_ok (by rw [hm]; exact beq_self_eq_true _) (br_ok rfl (br_ok rfl (br_ok ?_ (br_ok rfl (br_ok ?_ (br_ok rfl ?_))))))
  · show (getF (mset eqK _ (2, at1 + 1) o) (2, at1) == _) = true
    rw [getF_mset, if_neg hne1, getF_mset, if_pos rfl]
    exact beq_self_eq_true _
  · show (getF (mset eqK _ (2, at1 + 1) o) (2, at1 + 1) == _) = true
    rw [getF_mset, if_pos rfl]
    exact beq_self_eq_true _
  · show some ((getF (mset eqK _ (2, at1 + 1) o) (2, at1 + 2) == 0, ()), _) = _
    rw [getF_mset, if_neg hne2, getF_mset, if_neg hne3, getF_mset, if_neg hne3]
    rfl
/-! what was set last -/
theorem layFrom_mem {t : Int} {c : Cel} : ∀ (ws : List Int) (a : Int), c ∈ layFrom t a ws → c.1.1 = t ∧ a ≤ c.1.2 ∧ c.1.2 < a + ws.length
  | [], _, h => by cases h
  | w :: ws, a, h => by
    have e : layFrom t a (w :: ws) = ((t, a), w) :: layFrom t (a + 1) ws := rfl
    rw [e] at h
    simp only [List.length_cons]
    rcases List.mem_cons.1 h with rfl | h
    · exact ⟨rfl, Int.le_refl _, by simp only; omega⟩
    · obtain ⟨h1, h2, h3⟩ := layFrom_mem ws (a + 1) h
      exact ⟨h1, by omega, by omega⟩
/-- what no cell names stays -/
theorem getF_setF_out {k : Key} : ∀ (cs : List Cel) (m : Regs), (∀ c ∈ cs, c.1 ≠ k) → getF (setF m cs) k = getF m k
  | [], _, _ => rfl
  | c :: cs, m, h => by
    have e : setF m (c :: cs) = setF (if keyR c.1 then mset eqK m c.1 c.2 else m) cs := rfl
    rw [e, getF_setF_out cs _ fun d hd => h d (List.mem_cons_of_mem _ hd)]
    cases keyR c.1 with
    | true => rw [if_pos rfl, getF_mset, if_neg (fun e => h c List.mem_cons_self e.symm)]
    | false => rw [if_neg (by decide)]
/-- a request's cells lie in the span that it writes -/
theorem cellsA_in {a : AskT} {was : Int} {c : Cel} (h : c ∈ cellsA a was) : ∃ s, (spansA a).2 = [s] ∧ c.1.1 = s.1 ∧ s.2.1 ≤ c.1.2 ∧ c.1.2 < s.2.2 := by
  unfold cellsA at h
  cases hk : askOk a with
  | false => rw [if_pos hk] at h; cases h
  | true =>
    rw [if_neg (by rw [hk]; decide)] at h
    obtain ⟨q1, q2, q3, q4, q5, q6⟩ := askOk_at hk
    have e : spansA a = if aFn a = 1 ∨ aFn a = 2 ∨ aFn a = 3 ∨ aFn a = 4 then ([((tabS (aFn a)).1, aAt a, aAt a + aN a)], [])
      else if aFn a = 5 ∨ aFn a = 6 ∨ aFn a = 22 then ([], [((tabS (aFn a)).1, aAt a, aAt a + 1)])
      else if aFn a = 15 ∨ aFn a = 16 then ([], [((tabS (aFn a)).1, aAt a, aAt a + aN a)])
      else if aFn a = 23 then ([((tabS (aFn a)).1, aRAt a, aRAt a + aRN a)], [((tabS (aFn a)).1, aAt a, aAt a + aN a)])
      else ([], []) := by
      unfold spansA
      rw [if_neg (by rw [hk]; decide)]
    rw [e]
    obtain ⟨f, at1, n, v, an, o, bs, ws, ra, rn, cc, ob⟩ := a
    unfold sizeA inN at q6
    dsimp only [aFn, aAt, aN, aVal, aAnd, aOr, aBits, aWords, aRAt, aRN, aCode, aObj] at q1 q6 h ⊢
    rcases (known_iff f).1 q1 with rfl | rfl | rfl | rfl | rfl | rfl | rfl | rfl | rfl | rfl | rfl
    all_goals simp at q6 h
    all_goals try (obtain ⟨g1, g2, g3⟩ := layFrom_mem _ _ h)
    all_goals try (simp only [List.length_singleton, List.length_map] at g3)
    all_goals exact ⟨_, rfl, g1, g2, by show c.1.2 < _ + _; omega⟩
theorem do_get (m : Regs) (a : AskT) (k : Key) (h : (spansA a).2 = [] ∨ (doF m a).1.2 = false ∨ ∀ s, (spansA a).2 = [s] → k.1 ≠ s.1 ∨ k.2 < s.2.1 ∨ s.2.2 ≤ k.2) : getF (doF m a).2 k = getF m k := by
  have key : ∀ was, ((spansA a).2 = [] ∨ ∀ s, (spansA a).2 = [s] → k.1 ≠ s.1 ∨ k.2 < s.2.1 ∨ s.2.2 ≤ k.2) → getF (setF m (cellsA a was)) k = getF m k := by
    intro was h
    refine getF_setF_out _ _ fun c hc e => ?_
    obtain ⟨s, hs, g1, g2, g3⟩ := cellsA_in hc
    rw [← e] at h
    rcases h with h | h
    · rw [h] at hs; cases hs
    · have := h s hs
      omega
  have e : (doF m a).2 = m ∨ ((doF m a).2 = setF m (cellsA a (getF m (2, aAt a))) ∧ (doF m a).1.2 = true) := by
    unfold doF
    split
    · exact .inl rfl
    · split
      · exact .inr ⟨rfl, rfl⟩
      · exact .inr ⟨rfl, rfl⟩
  rcases e with e | ⟨e, e2⟩
  · rw [e]
  · rw [e]
    rcases h with h | h | h
    · exact key _ (.inl h)
    · rw [h] at e2; cases e2
    · exact key _ (.inr h)
theorem do6 (m : Regs) {a : AskT} (h6 : aFn a = 6) (hd : (doF m a).1.2 = true) {s : Spn} (hs : (spansA a).2 = [s]) {k : Key} (h1 : k.1 = s.1) (h2 : s.2.1 ≤ k.2) (h3 : k.2 < s.2.2) : getF (doF m a).2 k = aVal a := by
  have hk : askOk a = true := by
    cases h : askOk a with
    | true => rfl
    | false =>
      have e := spansA_some (.inl h)
      rw [e] at hs; cases hs
  have hsp : spansA a = ([], [((tabS (aFn a)).1, aAt a, aAt a + 1)]) := by
    unfold spansA
    rw [if_neg (by rw [hk]; decide), h6]
    rfl
  have hc : ∀ was, cellsA a was = [(((tabS (aFn a)).1, aAt a), aVal a)] := by
    intro was
    unfold cellsA
    rw [if_neg (by rw [hk]; decide), h6]
    rfl
  obtain ⟨q1, q2, q3, _⟩ := askOk_at hk
  have q2 : 0 ≤ aAt a := q2
  have q3 : aAt a ≤ 65535 := q3
  rw [hsp] at hs
  cases hs
  have e : (doF m a).2 = setF m (cellsA a (getF m (2, aAt a))) := by
    unfold doF at hd ⊢
    split at hd
    · cases hd
    · rename_i hx
      rw [if_neg hx, hsp]
  have ht : (tabS (aFn a)).1 = 2 := by rw [h6]; rfl
  have hk2 : k = ((tabS (aFn a)).1, aAt a) := Prod.ext h1 (by simp only at h2 h3; show k.2 = aAt a; omega)
  rw [e, hc, setF_cons (by rw [ht]; exact keyR_of (by decide) (by decide) q2 (by omega)), setF_nil, hk2, getF_mset, if_pos rfl]
theorem lv_FileLast : Valid Try.prog n_lFileLast ⟨valsOf [.slice tI, tI, tI, tI], [.val .bool], Fok (tys := [.slice tI, tI, tI, tI]) (fun _ => true) ((), (), (), (), ())⟩ := by
  refine valid_law mixed hf_lFileLast (by kernel_rfl) rfl (ts := tmpsOf f_lFileLast.results.toList) (by kernel_rfl) (cfg := cfgW g_lFileLast) tt_ok
    (Γok_cons v_awake27 (Γok_cons v_fnew (Γok_cons v_cell (Γok_cons v_fset (Γok_cons v_rput (Γok_cons v_key (Γok_cons v_fget (Γok_cons v_rbget (Γok_cons v_ask (Γok_cons v_r5Spans (Γok_cons v_fdo Γok_nil))))))))))) lFileLast_tm (by kernel_rfl) ?_
  rintro ⟨(ks : List Int), (a : Int), (v : Int), (at1 : Int), ⟨⟩⟩ _
  refine ⟨51, (lFileLast_rn _ _ _ _ _).trans ?_⟩
  unfold lFileLast_P
  by_cases h1 : (ks.length : Int) > 40
  · rw [br_dt h1]; rfl
  rw [br_df h1, brNTp]
  refine loopN_meas (fun x => 50 - x.2.2.2.2.2.2.1.toNat) (fun y => ∃ (i : Nat) (m : Regs) (x : List Cel), i ≤ 41 ∧ i ≤ ks.length ∧ SameR m x ∧ x.length ≤ i ∧ y = (ks, a, v, at1, (m, ()), x, (i : Int), ())) (fun _ => some ((true, ()), (), (), (), (), ())) ?_ 51 _ ⟨0, [], [], by omega, by omega, sameR_nil, by simp, rfl⟩ (by show 50 - (0 : Int).toNat < 50 + 1; omega)
  rintro y ⟨i, m, x, hi, hi2, hs, hx, rfl⟩ rec hrec
  have e1 : ((i : Nat) : Int).toNat = i := by omega
  by_cases hlt : (i : Int) < ks.length
  · simp only [lFileLast_L1, e1]
    rw [br_dt hlt, br_dt (by omega), br_dt hlt, bd_grd (show lenOk [(((cellS (ks.getD i 0)).1.1, (cellS (ks.getD i 0)).1.2), (cellS (ks.getD i 0)).2)] = true from rfl)]
    simp only
    rw [bd_grd (and_t (lenOk_of (by omega)) hs.buf), wrapI (by omega) (by omega)]
    have hkr : keyR (cellS (ks.getD i 0)).1 = true := by
      have := keyS_ok (ks.getD i 0)
      exact keyR_of this.1 this.2.1 this.2.2.1 this.2.2.2
    have hset := sameR_set [cellS (ks.getD i 0)] hs
    have eR : setR x [cellS (ks.getD i 0)] = putK x (cellS (ks.getD i 0)) := by
      show (if keyR (cellS (ks.getD i 0)).1 then _ else _) = _
      rw [if_pos hkr]
    rw [eR] at hset
    have hl : (putK x (cellS (ks.getD i 0))).length ≤ x.length + 1 := by rw [putK_eq]; exact putR_len _ _
    exact hrec _ ⟨i + 1, _, _, by omega, by omega, hset, by omega, rfl⟩ (by simp only; omega)
  · simp only [lFileLast_L1]
    rw [br_df hlt, bd_grd (and_t (lenOk_of (by omega)) hs.buf)]
    simp only
    have ho := askS_ok a v
    have hw := askS_W a v
    rw [br_f (by rw [hs.get]; simp)]
    generalize askS a v = q at ho hw ⊢
    refine (congrArg (fun z => bd z _) (grd_t (v := (((doF m q).1.1, (doF m q).1.2, ()), ((doF m q).2, ()), (), ())) (and_t ho hw))).trans ?_
    rw [bd_some']
    simp only
    have same : (h : (spansA q).2 = [] ∨ (doF m q).1.2 = false ∨ ∀ s, (spansA q).2 = [s] → (keyS at1).1 ≠ s.1 ∨ (keyS at1).2 < s.2.1 ∨ s.2.2 ≤ (keyS at1).2) → (some ((getF (doF m q).2 (keyS at1) == (getK x (keyS at1)).1, ()), (), (), (), (), ()) : LawRes4) = some ((true, ()), (), (), (), (), ()) := by
      intro h
      rw [do_get m q (keyS at1) h, hs.get]
      simp
    have hsp : (spansA q).2 = [] ∨ ∃ s, (spansA q).2 = [s] := by
      cases hk : askOk q with
      | false => rw [spansA_some (.inl hk)]; exact .inl rfl
      | true => rcases spansA_ok hk with e | ⟨s, t, e, _⟩ | ⟨t, e⟩ | ⟨s, e, _⟩ <;> rw [e] <;> first | exact .inl rfl | exact .inr ⟨_, rfl⟩
    rcases hsp with e | ⟨s, e⟩
    · rw [e, br_t (by rfl)]
      exact same (.inl e)
    · rw [e, br_f (by rfl)]
      have eg : ([s] : List Spn).getD (Int.toNat 0) (0, 0, 0) = s := rfl
      rw [eg]
      cases hd : (doF m q).1.2 with
      | false => rw [br_t (by rfl)]; exact same (.inr (.inl hd))
      | true =>
        rw [br_f (by rfl), br_dt (by simp)]
        by_cases c1 : (keyS at1).1 = s.1
        · rw [br_f (by rw [c1]; simp), br_dt (by simp)]
          by_cases c2 : (keyS at1).2 < s.2.1
          · rw [br_dt c2]
            exact same (.inr (.inr fun s' hs' => by rw [e] at hs'; cases hs'; exact .inr (.inl c2)))
          · rw [br_df c2, br_dt (by simp)]
            by_cases c3 : (keyS at1).2 ≥ s.2.2
            · rw [br_dt c3]
              exact same (.inr (.inr fun s' hs' => by rw [e] at hs'; cases hs'; exact .inr (.inr c3)))
            · rw [br_df c3]
              by_cases c6 : q.1 = 6
              · rw [br_f (by rw [c6]; rfl), do6 m c6 hd e c1 (by omega) (by omega)]
                simp
              · rw [br_t (by simpa using c6)]
        · rw [br_t (by simpa using c1)]
          exact same (.inr (.inr fun s' hs' => by rw [e] at hs'; cases hs'; exact .inl c1))
end Go.BB
set_option linter.unusedSimpArgs false
set_option linter.unusedVariables false
namespace Go.Proofs.Ytnofmeckcimodaa
open Go.BB Go.ChangeShapes Go.WideShapes Go.ChangeAt Go.RowKit
namespace Bb
theorem own : ownKnob Try.prog.godebug = none := by kernel_rfl
theorem laidOut : laidOutB Try.prog = true := by kernel_rfl
theorem reads (ts : List Nat) (h : (ts.all fun t => Try.prog.readableRec t && decide (t < Try.prog.types.size)) = true) : ∀ t ∈ ts, Try.prog.readableRec t = true ∧ t < Try.prog.types.size := by
  intro t ht
  have := List.all_eq_true.1 h t ht
  simpa using this
end Bb
namespace filePlays
set_option maxRecDepth 100000 in
theorem lifted (os : Os) (started : os.Started) (H : Type) (enc : TypeId × Value → H) :
    ReturnsInHanded {} Try.checked os 9 .any (Rows.filePlaysSpec.pre6 enc Try.prog Try.f9 Rows.filePlaysRow.domain false) (Rows.filePlaysSpec.post enc Try.prog Try.f9 false true false false) :=
  law_lifted2 (C := Try.checked) (O := O0) (tys := [.slice tCell, tAsk, .slice tI, .slice tI]) Bb.own started (by kernel_rfl) Try.func9
    (ChangeSpec.witness6 (enc := enc) (C := Try.checked) false ⟨#[], #[.slice none 0 0, .agg #[.int .i64 0, .int .i64 0, .int .i64 0, .int .u16 0, .int .u16 0, .int .u16 0, .slice none 0 0, .slice none 0 0, .int .i64 0, .int .i64 0, .int .i64 0, .int .i64 0], .slice none 0 0, .slice none 0 0], []⟩ 8 (by kernel_rfl) (by kernel_rfl) (by kernel_rfl) (by kernel_rfl))
    Bb.laidOut (by kernel_rfl) (Bb.reads _ (by kernel_rfl)) rfl Try.underlying4 rfl (fun ds h => by match ds, h with | [_, _, _, _], _ => rfl) lv_FilePlays (fun x h => ⟨_, grd_t (askW_in h.2.1)⟩)
theorem over : Rows.filePlaysRow.holds Try.pinned (OpenSpec.ofChange Rows.filePlaysSpec) :=
  OpenClaim.holds_of_wide 9 Try.f9 rfl rfl rfl rfl rfl rfl rfl ⟨rfl, rfl, rfl, rfl, rfl⟩ rfl rfl rfl rfl rfl (by kernel_rfl) Try.func9 (by kernel_rfl)
    (of_decide_eq_true (by kernel_rfl)) (by unfold Func.isWrapper; first | (rw [if_pos (by decide +kernel)]; kernel_rfl) | (rw [if_neg (by decide +kernel)]; exact ⟨rfl, rfl⟩))
    (fun os started H enc _ => lifted os started H enc)
end filePlays
/-- The row FilePlays. -/
theorem filePlays_holds : Rows.FilePlaysSaid := filePlays.over
#print axioms filePlays_holds
namespace fileMasks
set_option maxRecDepth 100000 in
theorem lifted (os : Os) (started : os.Started) (H : Type) (enc : TypeId × Value → H) :
    ReturnsInHanded {} Try.checked os 11 .any (Rows.fileMasksSpec.pre6 enc Try.prog Try.f11 Rows.fileMasksRow.domain false) (Rows.fileMasksSpec.post enc Try.prog Try.f11 false true false false) :=
  law_lifted2 (C := Try.checked) (O := O0) (tys := [tW, tW, tW, tI]) Bb.own started (by kernel_rfl) Try.func11
    (ChangeSpec.witness6 (enc := enc) (C := Try.checked) false ⟨#[], #[.int .u16 0, .int .u16 0, .int .u16 0, .int .i64 0], []⟩ 8 (by kernel_rfl) (by kernel_rfl) (by kernel_rfl) (by kernel_rfl))
    Bb.laidOut (by kernel_rfl) (Bb.reads _ (by kernel_rfl)) rfl Try.underlying4 rfl (fun ds h => by match ds, h with | [_, _, _, _], _ => rfl) lv_FileMasks (fun x h => ⟨_, grd_t (and_t (isW_in h.2.1) (isW_in h.2.2.1))⟩)
theorem over : Rows.fileMasksRow.holds Try.pinned (OpenSpec.ofChange Rows.fileMasksSpec) :=
  OpenClaim.holds_of_wide 11 Try.f11 rfl rfl rfl rfl rfl rfl rfl ⟨rfl, rfl, rfl, rfl, rfl⟩ rfl rfl rfl rfl rfl (by kernel_rfl) Try.func11 (by kernel_rfl)
    (of_decide_eq_true (by kernel_rfl)) (by unfold Func.isWrapper; first | (rw [if_pos (by decide +kernel)]; kernel_rfl) | (rw [if_neg (by decide +kernel)]; exact ⟨rfl, rfl⟩))
    (fun os started H enc _ => lifted os started H enc)
end fileMasks
/-- The row FileMasks. -/
theorem fileMasks_holds : Rows.FileMasksSaid := fileMasks.over
#print axioms fileMasks_holds
namespace fileLast
set_option maxRecDepth 100000 in
theorem lifted (os : Os) (started : os.Started) (H : Type) (enc : TypeId × Value → H) :
    ReturnsInHanded {} Try.checked os 10 .any (Rows.fileLastSpec.pre6 enc Try.prog Try.f10 Rows.fileLastRow.domain false) (Rows.fileLastSpec.post enc Try.prog Try.f10 false true false false) :=
  law_lifted2 (C := Try.checked) (O := O0) (tys := [.slice tI, tI, tI, tI]) Bb.own started (by kernel_rfl) Try.func10
    (ChangeSpec.witness6 (enc := enc) (C := Try.checked) false ⟨#[], #[.slice none 0 0, .int .i64 0, .int .i64 0, .int .i64 0], []⟩ 8 (by kernel_rfl) (by kernel_rfl) (by kernel_rfl) (by kernel_rfl))
    Bb.laidOut (by kernel_rfl) (Bb.reads _ (by kernel_rfl)) rfl Try.underlying4 rfl (fun ds h => by match ds, h with | [_, _, _, _], _ => rfl) lv_FileLast (fun x h => ⟨_, grd_t rfl⟩)
theorem over : Rows.fileLastRow.holds Try.pinned (OpenSpec.ofChange Rows.fileLastSpec) :=
  OpenClaim.holds_of_wide 10 Try.f10 rfl rfl rfl rfl rfl rfl rfl ⟨rfl, rfl, rfl, rfl, rfl⟩ rfl rfl rfl rfl rfl (by kernel_rfl) Try.func10 (by kernel_rfl)
    (of_decide_eq_true (by kernel_rfl)) (by unfold Func.isWrapper; first | (rw [if_pos (by decide +kernel)]; kernel_rfl) | (rw [if_neg (by decide +kernel)]; exact ⟨rfl, rfl⟩))
    (fun os started H enc _ => lifted os started H enc)
end fileLast
/-- The row FileLast. -/
theorem fileLast_holds : Rows.FileLastSaid := fileLast.over
#print axioms fileLast_holds
end Go.Proofs.Ytnofmeckcimodaa
