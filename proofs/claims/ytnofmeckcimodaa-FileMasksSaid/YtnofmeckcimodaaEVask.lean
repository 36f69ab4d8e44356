/- A symbolic machine for the model's code, and what it shows of this seat's functions. No conditions. -/
import Derived.Test.YtnofmeckcimodaaEVord
import Derived.Test.YtnofmeckcimodaaEVfdo
import Derived.Test.YtnofmeckcimodaaEN
import Derived.Test.YtnofmeckcimodaaESFdo
set_option linter.unusedSimpArgs false
set_option linter.unusedVariables false
namespace Go.BB
open Go Go.Proofs
set_option maxRecDepth 100000
/-! held against each other -/
abbrev SameRes := Option ((Bool × Unit) × Unit × Unit × Unit)
theorem br_same {c : Bool} {A : SameRes} {q : Bool} (h0 : c = false → q = false) (h1 : c = true → A = some ((q, ()), (), (), ())) : br c A (some ((false, ()), (), (), ())) = some ((q, ()), (), (), ()) := by
  cases c with
  | false => show some _ = _; rw [h0 rfl]
  | true => exact h1 rfl
theorem br_samen {c : Bool} {A : SameRes} {q : Bool} (h0 : c = false → q = false) (h1 : c = true → A = some ((q, ()), (), (), ())) : br (!c) (some ((false, ()), (), (), ())) A = some ((q, ()), (), (), ()) := by
  cases c with
  | false => show some _ = _; rw [h0 rfl]
  | true => exact h1 rfl
theorem bytes_ext {a b : ByteArray} (h : a.toList = b.toList) : a = b := by
  rw [ByteArray.toList_eq, ByteArray.toList_eq] at h
  cases a; cases b
  simpa using h
theorem objEq (a b : ObjT) : (a.1 == b.1 && ByteArray.toList a.2 == ByteArray.toList b.2) = decide (a = b) := by
  by_cases h : a = b
  · rw [h]; simp
  · rw [decide_eq_false h]
    cases h1 : (a.1 == b.1) with
    | false => rfl
    | true =>
      cases h2 : (ByteArray.toList a.2 == ByteArray.toList b.2) with
      | false => rfl
      | true => exact absurd (Prod.ext (eq_of_beq h1) (bytes_ext (eq_of_beq h2))) h
abbrev tObjs (t : TellT) : List ObjT := t.2.2.2.2.2.2.2.2.2.2.2.2.2
abbrev TellU := Int × Int × List Bool × List Int × Int × Int × Int × Int × Int × Int × Int × Bool × Int × List ObjT × Unit
abbrev tellU (a : TellT) : TellU := (a.1, a.2.1, a.2.2.1, a.2.2.2.1, a.2.2.2.2.1, a.2.2.2.2.2.1, a.2.2.2.2.2.2.1, a.2.2.2.2.2.2.2.1, a.2.2.2.2.2.2.2.2.1, a.2.2.2.2.2.2.2.2.2.1, a.2.2.2.2.2.2.2.2.2.2.1, a.2.2.2.2.2.2.2.2.2.2.2.1, a.2.2.2.2.2.2.2.2.2.2.2.2.1, a.2.2.2.2.2.2.2.2.2.2.2.2.2, ())
/-- the numbers -/
def tellN (a b : TellT) : SameRes :=
  br (a.1 == b.1) (br (a.2.1 == b.2.1) (bd (grd (lenOk a.2.2.1) ((sameS a.2.2.1 b.2.2.1, ()), (), (), ())) fun (x6 : (Bool × Unit) × Unit × Unit × Unit) => br x6.1.1
    (bd (grd (lenOk a.2.2.2.1) ((sameS a.2.2.2.1 b.2.2.2.1, ()), (), (), ())) fun (x7 : (Bool × Unit) × Unit × Unit × Unit) => br x7.1.1
      (br (a.2.2.2.2.1 == b.2.2.2.2.1) (br (a.2.2.2.2.2.1 == b.2.2.2.2.2.1) (br (a.2.2.2.2.2.2.1 == b.2.2.2.2.2.2.1) (br (a.2.2.2.2.2.2.2.1 == b.2.2.2.2.2.2.2.1) (br (a.2.2.2.2.2.2.2.2.1 == b.2.2.2.2.2.2.2.2.1)
        (br (a.2.2.2.2.2.2.2.2.2.1 == b.2.2.2.2.2.2.2.2.2.1) (br (a.2.2.2.2.2.2.2.2.2.2.1 == b.2.2.2.2.2.2.2.2.2.2.1) (br (a.2.2.2.2.2.2.2.2.2.2.2.1 == b.2.2.2.2.2.2.2.2.2.2.2.1)
          (some ((a.2.2.2.2.2.2.2.2.2.2.2.2.1 == b.2.2.2.2.2.2.2.2.2.2.2.2.1, ()), (), (), ())) (some ((false, ()), (), (), ()))) (some ((false, ()), (), (), ()))) (some ((false, ()), (), (), ()))) (some ((false, ()), (), (), ()))) (some ((false, ()), (), (), ()))) (some ((false, ()), (), (), ()))) (some ((false, ()), (), (), ()))) (some ((false, ()), (), (), ())))
      (some ((false, ()), (), (), ()))) (some ((false, ()), (), (), ()))) (some ((false, ()), (), (), ()))) (some ((false, ()), (), (), ()))
theorem tellN_eq (a b : TellT) (hl : tellLen a = true) (ho : tObjs a = tObjs b) : tellN a b = some ((sameTellB a b, ()), (), (), ()) := by
  have hl' : lenOk a.2.2.1 = true ∧ lenOk a.2.2.2.1 = true := by
    unfold tellLen at hl
    simp only [Bool.and_eq_true] at hl
    exact ⟨hl.1, hl.2.1⟩
  obtain ⟨g1, g2⟩ := hl'
  have ne : ∀ {c : Bool}, (a = b → c = true) → c = false → sameTellB a b = false := fun hc h => decide_eq_false fun e => by rw [hc e] at h; cases h
  unfold tellN
  refine br_same (ne fun e => by rw [e]; exact beq_self_eq_true _) fun k1 => ?_
  refine br_same (ne fun e => by rw [e]; exact beq_self_eq_true _) fun k2 => ?_
  rw [bd_grd g1]
  refine br_same (ne fun e => by rw [e]; exact decide_eq_true rfl) fun k3 => ?_
  rw [bd_grd g2]
  refine br_same (ne fun e => by rw [e]; exact decide_eq_true rfl) fun k4 => ?_
  refine br_same (ne fun e => by rw [e]; exact beq_self_eq_true _) fun k5 => ?_
  refine br_same (ne fun e => by rw [e]; exact beq_self_eq_true _) fun k6 => ?_
  refine br_same (ne fun e => by rw [e]; exact beq_self_eq_true _) fun k7 => ?_
  refine br_same (ne fun e => by rw [e]; exact beq_self_eq_true _) fun k8 => ?_
  refine br_same (ne fun e => by rw [e]; exact beq_self_eq_true _) fun k9 => ?_
  refine br_same (ne fun e => by rw [e]; exact beq_self_eq_true _) fun k10 => ?_
  refine br_same (ne fun e => by rw [e]; exact beq_self_eq_true _) fun k11 => ?_
  refine br_same (ne fun e => by rw [e]; exact beq_self_eq_true _) fun k12 => ?_
  have key : (a.2.2.2.2.2.2.2.2.2.2.2.2.1 == b.2.2.2.2.2.2.2.2.2.2.2.2.1) = sameTellB a b := by
    cases hq : (a.2.2.2.2.2.2.2.2.2.2.2.2.1 == b.2.2.2.2.2.2.2.2.2.2.2.2.1) with
    | false => exact (ne (fun e => by rw [e]; exact beq_self_eq_true _) hq).symm
    | true =>
      refine (decide_eq_true ?_).symm
      exact Prod.ext (eq_of_beq k1) (Prod.ext (eq_of_beq k2) (Prod.ext (of_decide_eq_true k3) (Prod.ext (of_decide_eq_true k4) (Prod.ext (eq_of_beq k5) (Prod.ext (eq_of_beq k6) (Prod.ext (eq_of_beq k7) (Prod.ext (eq_of_beq k8) (Prod.ext (eq_of_beq k9) (Prod.ext (eq_of_beq k10) (Prod.ext (eq_of_beq k11) (Prod.ext (eq_of_beq k12) (Prod.ext (eq_of_beq hq) ho))))))))))))
  rw [key]
theorem tell_L1 (rec1 : TellU × TellU × Int × Unit → SameRes) (a b : TellT) (i : Int) : sameTell_L1 rec1 (tellU a, tellU b, i, ()) =
    br (decide (i < (↑(tObjs a).length : Int))) (br (decide ((0 : Int) ≤ i)) (br (decide (i < (↑(tObjs a).length : Int))) (br (decide ((0 : Int) ≤ i)) (br (decide (i < (↑(tObjs b).length : Int)))
      (br (!(((tObjs a).getD i.toNat ((0 : Int), ByteArray.empty)).1 == ((tObjs b).getD i.toNat ((0 : Int), ByteArray.empty)).1 && ByteArray.toList ((tObjs a).getD i.toNat ((0 : Int), ByteArray.empty)).2 == ByteArray.toList ((tObjs b).getD i.toNat ((0 : Int), ByteArray.empty)).2))
        (some ((false, ()), (), (), ())) (rec1 (tellU a, tellU b, IntKind.i64.wrap (i + (1 : Int)), ()))) none) none) none) none) (tellN a b) := by kernel_rfl
theorem v_sameTell : Valid Try.prog n_sameTell c_sameTell := by
  refine valid_fn mixed hf_sameTell (by kernel_rfl) rfl (ts := tmpsOf f_sameTell.results.toList) (by kernel_rfl) (cfg := cfgW g_sameTell) tt_ok (Γok_cons v_r5sameBits (Γok_cons v_r5sameWords Γok_nil)) sameTell_tm c_sameTell (by kernel_rfl) (fun _ _ _ _ => ⟨⟩) ?_
  rintro ⟨(a : TellT), (b : TellT), ⟨⟩⟩ r u h
  obtain ⟨h1, h2⟩ := grd_some h
  have hl : tellLen a = true := h1
  have hlo : (tObjs a).length < 1000000 := by
    unfold tellLen at hl
    simp only [Bool.and_eq_true] at hl
    exact lenOk_lt hl.2.2
  refine ⟨(tObjs a).length + 1, (sameTell_rn _ a b).trans (Eq.trans ?_ (congrArg some h2))⟩
  have ne : ∀ {c : Bool}, (a = b → c = true) → c = false → sameTellB a b = false := fun hc h => decide_eq_false fun e => by rw [hc e] at h; cases h
  show br ((↑(tObjs a).length : Int) != (↑(tObjs b).length : Int)) (some ((false, ()), (), (), ())) (loopN sameTell_L1 ((tObjs a).length + 1) (tellU a, tellU b, 0, ())) = some ((sameTellB a b, ()), (), (), ())
  by_cases hab : (tObjs a).length = (tObjs b).length
  · rw [br_f (by simp [hab])]
    refine loopN_meas (fun x => (tObjs a).length - x.2.2.1.toNat) (fun x => ∃ i : Nat, i ≤ (tObjs a).length ∧ x = (tellU a, tellU b, (i : Int), ()) ∧ (tObjs a).take i = (tObjs b).take i) (fun _ => some ((sameTellB a b, ()), (), (), ())) ?_ _ (tellU a, tellU b, 0, ()) ⟨0, by omega, rfl, by simp⟩ (by simp)
    rintro x ⟨i, hi, rfl, ht⟩ rec hrec
    rw [tell_L1]
    have ei : ((i : Nat) : Int).toNat = i := by omega
    by_cases h : i < (tObjs a).length
    · rw [br_dt (by omega), br_dt (by omega), br_dt (by omega), br_dt (by omega), br_dt (by omega), wrapI (by omega) (by omega), ei, objEq]
      refine br_samen (fun hx => decide_eq_false fun e => ?_) fun hx => ?_
      · have hx := of_decide_eq_false hx
        exact hx (by rw [e])
      · have hx := of_decide_eq_true hx
        refine hrec _ ⟨i + 1, by omega, by simp, ?_⟩ (by simp only; omega)
        rw [List.take_add_one, List.take_add_one, ht]
        congr 1
        rw [List.getD_eq_getElem?_getD, List.getD_eq_getElem?_getD, List.getElem?_eq_getElem h, List.getElem?_eq_getElem (by omega : i < (tObjs b).length)] at hx
        rw [List.getElem?_eq_getElem h, List.getElem?_eq_getElem (by omega : i < (tObjs b).length)]
        exact congrArg (fun x => (some x).toList) hx
    · rw [br_df (by omega)]
      refine tellN_eq a b hl ?_
      rw [List.take_of_length_le (by omega), List.take_of_length_le (by omega)] at ht
      exact ht
  · rw [br_t (by simp; omega)]
    exact (congrArg (fun q => some ((q, ()), (), (), ())) (decide_eq_false (p := a = b) fun e => hab (by rw [e]))).symm
end Go.BB
set_option linter.unusedVariables false
namespace Go.BB
open Go Go.Proofs
set_option maxRecDepth 100000
set_option exponentiation.threshold 100000
noncomputable section
end
end Go.BB
set_option linter.unusedVariables false
namespace Go.BB
open Go Go.Proofs
set_option maxRecDepth 100000
set_option exponentiation.threshold 100000
noncomputable section
end
end Go.BB
set_option linter.unusedVariables false
namespace Go.BB
open Go Go.Proofs
set_option maxRecDepth 100000
set_option exponentiation.threshold 100000
noncomputable section
abbrev g_words : List (Nat × Ctr O0) := [(n_within, c_within)]
def words_tm : List Tm := [[((0 : Nat), none, Sh.val (Ty.int IntKind.i64)), ((1 : Nat), none, Sh.val (Ty.int IntKind.i64)), ((5 : Nat), none, Sh.own (Ty.int IntKind.u16)), ((6 : Nat), none, Sh.val (Ty.int IntKind.i64))]]
def words_L1 (rec1 : Int × Int × List Int × Int × Unit → Option ((List Int × Unit) × Unit × Unit × Unit)) : Int × Int × List Int × Int × Unit → Option ((List Int × Unit) × Unit × Unit × Unit) := fun (y3, y4, y5, y6, ()) => br (decide (y6 < y4)) (bd (grd (decide ((0 : Int) < (60000 : Int)) && decide ((60000 : Int) < (4611686018427387904 : Int))) ((y3 % (60000 : Int), ()), (), (), ())) fun (x7 : (Int × Unit) × Unit × Unit × Unit) => br (decide ((y5.length + [IntKind.u16.wrap (IntKind.i64.wrap (x7.1.1 + y6))].length) * (2 : Nat) ≤ LIM)) (br (decide (y5.length + [IntKind.u16.wrap (IntKind.i64.wrap (x7.1.1 + y6))].length ≤ LIM)) (rec1 (y3, y4, cat y5 [IntKind.u16.wrap (IntKind.i64.wrap (x7.1.1 + y6))], IntKind.i64.wrap (y6 + (1 : Int)), ())) none) none) (some ((y5, ()), (), (), ()))
def words_P (K : Nat) (a0 : Int) (a1 : Int) : Option ((List Int × Unit) × Unit × Unit × Unit) := loopN words_L1 K (a0, a1, [], (0 : Int), ())
theorem words_rn (K : Nat) (a0 : Int) (a1 : Int) : runF (cfgW g_words) K f_words words_tm [.val tI, .val tI] [.own tW] (a0, a1, ()) = words_P K a0 a1 := by kernel_rfl
abbrev g_ask : List (Nat × Ctr O0) := [(n_digit, c_digit), (n_within, c_within), (n_words, c_words)]
def ask_tm : List Tm := [[((1 : Nat), none, Sh.val (Ty.int IntKind.i64)), ((4 : Nat), none, ((Sh.val (Ty.int IntKind.i64)).cons ((Sh.val (Ty.int IntKind.i64)).cons ((Sh.val (Ty.int IntKind.i64)).cons ((Sh.val (Ty.int IntKind.u16)).cons ((Sh.val (Ty.int IntKind.u16)).cons ((Sh.val (Ty.int IntKind.u16)).cons (Sh.nil.cons (Sh.nil.cons ((Sh.val (Ty.int IntKind.i64)).cons ((Sh.val (Ty.int IntKind.i64)).cons ((Sh.val (Ty.int IntKind.i64)).cons ((Sh.val (Ty.int IntKind.i64)).cons Sh.unit)))))))))))).ptr), ((6 : Nat), none, Sh.val (Ty.int IntKind.i64)), ((7 : Nat), none, ((Sh.val (Ty.int IntKind.i64)).cons ((Sh.val (Ty.int IntKind.i64)).cons ((Sh.val (Ty.int IntKind.i64)).cons ((Sh.val (Ty.int IntKind.u16)).cons ((Sh.val (Ty.int IntKind.u16)).cons ((Sh.val (Ty.int IntKind.u16)).cons ((Sh.own Ty.bool).cons (Sh.nil.cons ((Sh.val (Ty.int IntKind.i64)).cons ((Sh.val (Ty.int IntKind.i64)).cons ((Sh.val (Ty.int IntKind.i64)).cons ((Sh.val (Ty.int IntKind.i64)).cons Sh.unit)))))))))))).ptr), ((8 : Nat), none, Sh.val (Ty.int IntKind.i64))]]
def ask_L1 (rec12 : Int × (Int × Int × Int × Int × Int × Int × Unit × Unit × Int × Int × Int × Int × Unit) × Int × (Int × Int × Int × Int × Int × Int × List Bool × Unit × Int × Int × Int × Int × Unit) × Int × Unit → Option ((AskT × Unit) × Unit × Unit × Unit)) : Int × (Int × Int × Int × Int × Int × Int × Unit × Unit × Int × Int × Int × Int × Unit) × Int × (Int × Int × Int × Int × Int × Int × List Bool × Unit × Int × Int × Int × Int × Unit) × Int × Unit → Option ((AskT × Unit) × Unit × Unit × Unit) := fun (y14, y15, y16, y17, y18, ()) => br (decide (y18 < y16)) (bd (grd (decide ((0 : Int) < IntKind.i64.wrap ((7 : Int) + y18)) && decide (IntKind.i64.wrap ((7 : Int) + y18) < (4611686018427387904 : Int))) ((y14 % IntKind.i64.wrap ((7 : Int) + y18), ()), (), (), ())) fun (x19 : (Int × Unit) × Unit × Unit × Unit) => br (!false) (br (decide ((y17.2.2.2.2.2.2.1.length + [x19.1.1.tmod (2 : Int) == (1 : Int)].length) * (1 : Nat) ≤ LIM)) (br (decide (y17.2.2.2.2.2.2.1.length + [x19.1.1.tmod (2 : Int) == (1 : Int)].length ≤ LIM)) (rec12 (y14, (y15.1, y15.2.1, y15.2.2.1, y15.2.2.2.1, y15.2.2.2.2.1, y15.2.2.2.2.2.1, (), (), y15.2.2.2.2.2.2.2.2.1, y15.2.2.2.2.2.2.2.2.2.1, y15.2.2.2.2.2.2.2.2.2.2.1, y15.2.2.2.2.2.2.2.2.2.2.2.1, ()), y16, (y17.1, y17.2.1, y17.2.2.1, y17.2.2.2.1, y17.2.2.2.2.1, y17.2.2.2.2.2.1, cat y17.2.2.2.2.2.2.1 [x19.1.1.tmod (2 : Int) == (1 : Int)], (), y17.2.2.2.2.2.2.2.2.1, y17.2.2.2.2.2.2.2.2.2.1, y17.2.2.2.2.2.2.2.2.2.2.1, y17.2.2.2.2.2.2.2.2.2.2.2.1, ()), IntKind.i64.wrap (y18 + (1 : Int)), ())) none) none) none) (some (((y17.1, y17.2.1, y17.2.2.1, y17.2.2.2.1, y17.2.2.2.2.1, y17.2.2.2.2.2.1, y17.2.2.2.2.2.2.1, [], y17.2.2.2.2.2.2.2.2.1, y17.2.2.2.2.2.2.2.2.2.1, y17.2.2.2.2.2.2.2.2.2.2.1, y17.2.2.2.2.2.2.2.2.2.2.2.1), ()), (), (), ()))
def ask_L2 (rec20 : Int × (Int × Int × Int × Int × Int × Int × Unit × Unit × Int × Int × Int × Int × Unit) × Int × (Int × Int × Int × Int × Int × Int × List Bool × Unit × Int × Int × Int × Int × Unit) × Int × Unit → Option ((AskT × Unit) × Unit × Unit × Unit)) : Int × (Int × Int × Int × Int × Int × Int × Unit × Unit × Int × Int × Int × Int × Unit) × Int × (Int × Int × Int × Int × Int × Int × List Bool × Unit × Int × Int × Int × Int × Unit) × Int × Unit → Option ((AskT × Unit) × Unit × Unit × Unit) := fun (y22, y23, y24, y25, y26, ()) => br (decide (y26 < y24)) (bd (grd (decide ((0 : Int) < IntKind.i64.wrap ((7 : Int) + y26)) && decide (IntKind.i64.wrap ((7 : Int) + y26) < (4611686018427387904 : Int))) ((y22 % IntKind.i64.wrap ((7 : Int) + y26), ()), (), (), ())) fun (x27 : (Int × Unit) × Unit × Unit × Unit) => br (!false) (br (decide ((y25.2.2.2.2.2.2.1.length + [x27.1.1.tmod (2 : Int) == (1 : Int)].length) * (1 : Nat) ≤ LIM)) (br (decide (y25.2.2.2.2.2.2.1.length + [x27.1.1.tmod (2 : Int) == (1 : Int)].length ≤ LIM)) (rec20 (y22, (y23.1, y23.2.1, y23.2.2.1, y23.2.2.2.1, y23.2.2.2.2.1, y23.2.2.2.2.2.1, (), (), y23.2.2.2.2.2.2.2.2.1, y23.2.2.2.2.2.2.2.2.2.1, y23.2.2.2.2.2.2.2.2.2.2.1, y23.2.2.2.2.2.2.2.2.2.2.2.1, ()), y24, (y25.1, y25.2.1, y25.2.2.1, y25.2.2.2.1, y25.2.2.2.2.1, y25.2.2.2.2.2.1, cat y25.2.2.2.2.2.2.1 [x27.1.1.tmod (2 : Int) == (1 : Int)], (), y25.2.2.2.2.2.2.2.2.1, y25.2.2.2.2.2.2.2.2.2.1, y25.2.2.2.2.2.2.2.2.2.2.1, y25.2.2.2.2.2.2.2.2.2.2.2.1, ()), IntKind.i64.wrap (y26 + (1 : Int)), ())) none) none) none) (some (((y25.1, y25.2.1, y25.2.2.1, y25.2.2.2.1, y25.2.2.2.2.1, y25.2.2.2.2.2.1, y25.2.2.2.2.2.2.1, [], y25.2.2.2.2.2.2.2.2.1, y25.2.2.2.2.2.2.2.2.2.1, y25.2.2.2.2.2.2.2.2.2.2.1, y25.2.2.2.2.2.2.2.2.2.2.2.1), ()), (), (), ()))
def ask_L3 (rec44 : Int × (Int × Int × Int × Int × Int × Int × Unit × Unit × Int × Int × Int × Int × Unit) × Int × (Int × Int × Int × Int × Int × Int × List Bool × Unit × Int × Int × Int × Int × Unit) × Int × Unit → Option ((AskT × Unit) × Unit × Unit × Unit)) : Int × (Int × Int × Int × Int × Int × Int × Unit × Unit × Int × Int × Int × Int × Unit) × Int × (Int × Int × Int × Int × Int × Int × List Bool × Unit × Int × Int × Int × Int × Unit) × Int × Unit → Option ((AskT × Unit) × Unit × Unit × Unit) := fun (y46, y47, y48, y49, y50, ()) => br (decide (y50 < y48)) (bd (grd (decide ((0 : Int) < IntKind.i64.wrap ((7 : Int) + y50)) && decide (IntKind.i64.wrap ((7 : Int) + y50) < (4611686018427387904 : Int))) ((y46 % IntKind.i64.wrap ((7 : Int) + y50), ()), (), (), ())) fun (x51 : (Int × Unit) × Unit × Unit × Unit) => br (!false) (br (decide ((y49.2.2.2.2.2.2.1.length + [x51.1.1.tmod (2 : Int) == (1 : Int)].length) * (1 : Nat) ≤ LIM)) (br (decide (y49.2.2.2.2.2.2.1.length + [x51.1.1.tmod (2 : Int) == (1 : Int)].length ≤ LIM)) (rec44 (y46, (y47.1, y47.2.1, y47.2.2.1, y47.2.2.2.1, y47.2.2.2.2.1, y47.2.2.2.2.2.1, (), (), y47.2.2.2.2.2.2.2.2.1, y47.2.2.2.2.2.2.2.2.2.1, y47.2.2.2.2.2.2.2.2.2.2.1, y47.2.2.2.2.2.2.2.2.2.2.2.1, ()), y48, (y49.1, y49.2.1, y49.2.2.1, y49.2.2.2.1, y49.2.2.2.2.1, y49.2.2.2.2.2.1, cat y49.2.2.2.2.2.2.1 [x51.1.1.tmod (2 : Int) == (1 : Int)], (), y49.2.2.2.2.2.2.2.2.1, y49.2.2.2.2.2.2.2.2.2.1, y49.2.2.2.2.2.2.2.2.2.2.1, y49.2.2.2.2.2.2.2.2.2.2.2.1, ()), IntKind.i64.wrap (y50 + (1 : Int)), ())) none) none) none) (some (((y49.1, y49.2.1, y49.2.2.1, y49.2.2.2.1, y49.2.2.2.2.1, y49.2.2.2.2.2.1, y49.2.2.2.2.2.2.1, [], y49.2.2.2.2.2.2.2.2.1, y49.2.2.2.2.2.2.2.2.2.1, y49.2.2.2.2.2.2.2.2.2.2.1, y49.2.2.2.2.2.2.2.2.2.2.2.1), ()), (), (), ()))
def ask_L4 (rec52 : Int × (Int × Int × Int × Int × Int × Int × Unit × Unit × Int × Int × Int × Int × Unit) × Int × (Int × Int × Int × Int × Int × Int × List Bool × Unit × Int × Int × Int × Int × Unit) × Int × Unit → Option ((AskT × Unit) × Unit × Unit × Unit)) : Int × (Int × Int × Int × Int × Int × Int × Unit × Unit × Int × Int × Int × Int × Unit) × Int × (Int × Int × Int × Int × Int × Int × List Bool × Unit × Int × Int × Int × Int × Unit) × Int × Unit → Option ((AskT × Unit) × Unit × Unit × Unit) := fun (y54, y55, y56, y57, y58, ()) => br (decide (y58 < y56)) (bd (grd (decide ((0 : Int) < IntKind.i64.wrap ((7 : Int) + y58)) && decide (IntKind.i64.wrap ((7 : Int) + y58) < (4611686018427387904 : Int))) ((y54 % IntKind.i64.wrap ((7 : Int) + y58), ()), (), (), ())) fun (x59 : (Int × Unit) × Unit × Unit × Unit) => br (!false) (br (decide ((y57.2.2.2.2.2.2.1.length + [x59.1.1.tmod (2 : Int) == (1 : Int)].length) * (1 : Nat) ≤ LIM)) (br (decide (y57.2.2.2.2.2.2.1.length + [x59.1.1.tmod (2 : Int) == (1 : Int)].length ≤ LIM)) (rec52 (y54, (y55.1, y55.2.1, y55.2.2.1, y55.2.2.2.1, y55.2.2.2.2.1, y55.2.2.2.2.2.1, (), (), y55.2.2.2.2.2.2.2.2.1, y55.2.2.2.2.2.2.2.2.2.1, y55.2.2.2.2.2.2.2.2.2.2.1, y55.2.2.2.2.2.2.2.2.2.2.2.1, ()), y56, (y57.1, y57.2.1, y57.2.2.1, y57.2.2.2.1, y57.2.2.2.2.1, y57.2.2.2.2.2.1, cat y57.2.2.2.2.2.2.1 [x59.1.1.tmod (2 : Int) == (1 : Int)], (), y57.2.2.2.2.2.2.2.2.1, y57.2.2.2.2.2.2.2.2.2.1, y57.2.2.2.2.2.2.2.2.2.2.1, y57.2.2.2.2.2.2.2.2.2.2.2.1, ()), IntKind.i64.wrap (y58 + (1 : Int)), ())) none) none) none) (some (((y57.1, y57.2.1, y57.2.2.1, y57.2.2.2.1, y57.2.2.2.2.1, y57.2.2.2.2.2.1, y57.2.2.2.2.2.2.1, [], y57.2.2.2.2.2.2.2.2.1, y57.2.2.2.2.2.2.2.2.2.1, y57.2.2.2.2.2.2.2.2.2.2.1, y57.2.2.2.2.2.2.2.2.2.2.2.1), ()), (), (), ()))
def ask_P (K : Nat) (a0 : Int) (a1 : Int) : Option ((AskT × Unit) × Unit × Unit × Unit) := bd (grd (true && (true && decide ((40 : Int) < (4611686018427387904 : Int)))) ((digitS a0 (16 : Int) (40 : Int), ()), (), (), (), ())) fun (x1 : (Int × Unit) × Unit × Unit × Unit × Unit) => bd (grd (true && (true && decide ((6 : Int) < (4611686018427387904 : Int)))) ((digitS a0 (640 : Int) (6 : Int), ()), (), (), (), ())) fun (x2 : (Int × Unit) × Unit × Unit × Unit × Unit) => bd (grd (true && (true && decide ((12 : Int) < (4611686018427387904 : Int)))) ((digitS a0 (3840 : Int) (12 : Int), ()), (), (), (), ())) fun (x3 : (Int × Unit) × Unit × Unit × Unit × Unit) => br (x3.1.1 == (0 : Int)) (bd (grd (decide ((0 : Int) < (46080 : Int)) && (decide ((0 : Int) < (65536 : Int)) && decide ((65536 : Int) < (4611686018427387904 : Int)))) ((digitS a0 (46080 : Int) (65536 : Int), ()), (), (), (), ())) fun (x4 : (Int × Unit) × Unit × Unit × Unit × Unit) => bd (grd (true && decide ((16 : Int) < (4611686018427387904 : Int))) ((a0 % (16 : Int), ()), (), (), ())) fun (x5 : (Int × Unit) × Unit × Unit × Unit) => br (x5.1.1 == (0 : Int)) (some ((((1 : Int), x4.1.1, IntKind.i64.wrap ((1 : Int) + x2.1.1), (0 : Int), (0 : Int), (0 : Int), [], [], (0 : Int), (0 : Int), (0 : Int), (0 : Int)), ()), (), (), ())) (br (x5.1.1 == (1 : Int)) (some ((((2 : Int), x4.1.1, IntKind.i64.wrap ((1 : Int) + x2.1.1), (0 : Int), (0 : Int), (0 : Int), [], [], (0 : Int), (0 : Int), (0 : Int), (0 : Int)), ()), (), (), ())) (br (x5.1.1 == (2 : Int)) (some ((((3 : Int), x4.1.1, IntKind.i64.wrap ((1 : Int) + x2.1.1), (0 : Int), (0 : Int), (0 : Int), [], [], (0 : Int), (0 : Int), (0 : Int), (0 : Int)), ()), (), (), ())) (br (x5.1.1 == (3 : Int)) (some ((((3 : Int), x4.1.1, IntKind.i64.wrap ((1 : Int) + x2.1.1), (0 : Int), (0 : Int), (0 : Int), [], [], (0 : Int), (0 : Int), (0 : Int), (0 : Int)), ()), (), (), ())) (br (x5.1.1 == (4 : Int)) (some ((((3 : Int), x4.1.1, IntKind.i64.wrap ((1 : Int) + x2.1.1), (0 : Int), (0 : Int), (0 : Int), [], [], (0 : Int), (0 : Int), (0 : Int), (0 : Int)), ()), (), (), ())) (br (x5.1.1 == (5 : Int)) (some ((((4 : Int), x4.1.1, IntKind.i64.wrap ((1 : Int) + x2.1.1), (0 : Int), (0 : Int), (0 : Int), [], [], (0 : Int), (0 : Int), (0 : Int), (0 : Int)), ()), (), (), ())) (br (x5.1.1 == (6 : Int)) (bd (grd (true && decide ((2 : Int) < (4611686018427387904 : Int))) ((a1 % (2 : Int), ()), (), (), ())) fun (x6 : (Int × Unit) × Unit × Unit × Unit) => some ((((5 : Int), x4.1.1, (0 : Int), IntKind.u16.wrap x6.1.1, (0 : Int), (0 : Int), [], [], (0 : Int), (0 : Int), (0 : Int), (0 : Int)), ()), (), (), ())) (br (x5.1.1 == (7 : Int)) (bd (grd (decide ((0 : Int) < (60000 : Int)) && decide ((60000 : Int) < (4611686018427387904 : Int))) ((a1 % (60000 : Int), ()), (), (), ())) fun (x7 : (Int × Unit) × Unit × Unit × Unit) => some ((((6 : Int), x4.1.1, (0 : Int), IntKind.u16.wrap x7.1.1, (0 : Int), (0 : Int), [], [], (0 : Int), (0 : Int), (0 : Int), (0 : Int)), ()), (), (), ())) (br (x5.1.1
 == (8 : Int)) (bd (grd (decide ((0 : Int) < (60000 : Int)) && decide ((60000 : Int) < (4611686018427387904 : Int))) ((a1 % (60000 : Int), ()), (), (), ())) fun (x8 : (Int × Unit) × Unit × Unit × Unit) => some ((((6 : Int), x4.1.1, (0 : Int), IntKind.u16.wrap x8.1.1, (0 : Int), (0 : Int), [], [], (0 : Int), (0 : Int), (0 : Int), (0 : Int)), ()), (), (), ())) (br (x5.1.1 == (9 : Int)) (bd (grd (decide ((0 : Int) < (60000 : Int)) && decide ((60000 : Int) < (4611686018427387904 : Int))) ((a1 % (60000 : Int), ()), (), (), ())) fun (x9 : (Int × Unit) × Unit × Unit × Unit) => some ((((6 : Int), x4.1.1, (0 : Int), IntKind.u16.wrap x9.1.1, (0 : Int), (0 : Int), [], [], (0 : Int), (0 : Int), (0 : Int), (0 : Int)), ()), (), (), ())) (br (x5.1.1 == (10 : Int)) (bd (grd (true && (true && decide ((3 : Int) < (4611686018427387904 : Int)))) ((digitS a1 (64 : Int) (3 : Int), ()), (), (), (), ())) fun (x10 : (Int × Unit) × Unit × Unit × Unit × Unit) => br (x10.1.1 == (0 : Int)) (bd (grd (true && (true && decide ((20 : Int) < (4611686018427387904 : Int)))) ((digitS a0 (16 : Int) (20 : Int), ()), (), (), (), ())) fun (x11 : (Int × Unit) × Unit × Unit × Unit × Unit) => loopN ask_L1 K (a1, ((0 : Int), (0 : Int), (0 : Int), (0 : Int), (0 : Int), (0 : Int), (), (), (0 : Int), (0 : Int), (0 : Int), (0 : Int), ()), IntKind.i64.wrap ((14 : Int) + IntKind.i64.wrap ((1 : Int) + x2.1.1)), ((15 : Int), x11.1.1, IntKind.i64.wrap ((14 : Int) + IntKind.i64.wrap ((1 : Int) + x2.1.1)), (0 : Int), (0 : Int), (0 : Int), [], (), (0 : Int), (0 : Int), (0 : Int), (0 : Int), ()), (0 : Int), ())) (loopN ask_L2 K (a1, ((0 : Int), (0 : Int), (0 : Int), (0 : Int), (0 : Int), (0 : Int), (), (), (0 : Int), (0 : Int), (0 : Int), (0 : Int), ()), IntKind.i64.wrap ((1 : Int) + x2.1.1), ((15 : Int), x4.1.1, IntKind.i64.wrap ((1 : Int) + x2.1.1), (0 : Int), (0 : Int), (0 : Int), [], (), (0 : Int), (0 : Int), (0 : Int), (0 : Int), ()), (0 : Int), ()))) (br (x5.1.1 == (11 : Int)) (bd (grd (decide (IntKind.i64.wrap ((1 : Int) + x2.1.1) ≤ (1000 : Int))) ((wordsS a1 (IntKind.i64.wrap ((1 : Int) + x2.1.1)), ()), (), (), ())) fun (x28 : (List Int × Unit) × Unit × Unit × Unit) => some ((((16 : Int), x4.1.1, IntKind.i64.wrap ((1 : Int) + x2.1.1), (0 : Int), (0 : Int), (0 : Int), [], x28.1.1, (0 : Int), (0 : Int), (0 : Int), (0 : Int)), ()), (), (), ())) (br (x5.1.1 == (12 : Int)) (bd (grd (decide (IntKind.i64.wrap ((1 : Int) + x2.1.1) ≤ (1000 : Int))) ((wordsS a1 (IntKind.i64.wrap ((1 : Int) + x2.1.1)), ()), (), (), ())) fun (x29 : (List Int × Unit) × Unit × Unit × Unit) => some ((((16 : Int), x4.1.1, IntKind.i64.wrap ((1 : Int) + x2.1.1), (0 : Int), (0 : Int), (0 : Int), [], x29.1.1, (0 : Int), (0 : Int), (0 : Int), (0 : Int)), ()), (), (), ())) (br (x5.1.1 == (13 : Int)) (bd (grd (decide ((0 : Int) < (65536 : Int)) && decide ((65536 : Int) < (4611686018427387904 : Int))) ((a1 % (65536 : Int), ()), (), (), ())) fun (x30 : (Int × Unit) × Unit × Unit × Unit) => bd (grd (decide ((0 : Int) < (65536 : Int)) &&
 (decide ((0 : Int) < (65536 : Int)) && decide ((65536 : Int) < (4611686018427387904 : Int)))) ((digitS a1 (65536 : Int) (65536 : Int), ()), (), (), (), ())) fun (x31 : (Int × Unit) × Unit × Unit × Unit × Unit) => some ((((22 : Int), x4.1.1, (0 : Int), (0 : Int), IntKind.u16.wrap x30.1.1, IntKind.u16.wrap x31.1.1, [], [], (0 : Int), (0 : Int), (0 : Int), (0 : Int)), ()), (), (), ())) (br (x5.1.1 == (14 : Int)) (bd (grd (decide (IntKind.i64.wrap ((1 : Int) + x2.1.1) ≤ (1000 : Int))) ((wordsS a1 (IntKind.i64.wrap ((1 : Int) + x2.1.1)), ()), (), (), ())) fun (x32 : (List Int × Unit) × Unit × Unit × Unit) => bd (grd (true && decide ((40 : Int) < (4611686018427387904 : Int))) ((a1 % (40 : Int), ()), (), (), ())) fun (x33 : (Int × Unit) × Unit × Unit × Unit) => bd (grd (true && (true && decide ((6 : Int) < (4611686018427387904 : Int)))) ((digitS a1 (40 : Int) (6 : Int), ()), (), (), (), ())) fun (x34 : (Int × Unit) × Unit × Unit × Unit × Unit) => some ((((23 : Int), x4.1.1, IntKind.i64.wrap ((1 : Int) + x2.1.1), (0 : Int), (0 : Int), (0 : Int), [], x32.1.1, x33.1.1, IntKind.i64.wrap ((1 : Int) + x34.1.1), (0 : Int), (0 : Int)), ()), (), (), ())) (bd (grd (true && decide ((4 : Int) < (4611686018427387904 : Int))) ((a1 % (4 : Int), ()), (), (), ())) fun (x35 : (Int × Unit) × Unit × Unit × Unit) => bd (grd (true && (true && decide ((5 : Int) < (4611686018427387904 : Int)))) ((digitS a1 (4 : Int) (5 : Int), ()), (), (), (), ())) fun (x36 : (Int × Unit) × Unit × Unit × Unit × Unit) => some ((((43 : Int), (0 : Int), (0 : Int), (0 : Int), (0 : Int), (0 : Int), [], [], (0 : Int), (0 : Int), IntKind.i64.wrap ((1 : Int) + x35.1.1), x36.1.1), ()), (), (), ()))))))))))))))))) (bd (grd (true && decide ((16 : Int) < (4611686018427387904 : Int))) ((a0 % (16 : Int), ()), (), (), ())) fun (x37 : (Int × Unit) × Unit × Unit × Unit) => br (x37.1.1 == (0 : Int)) (some ((((1 : Int), x1.1.1, IntKind.i64.wrap ((1 : Int) + x2.1.1), (0 : Int), (0 : Int), (0 : Int), [], [], (0 : Int), (0 : Int), (0 : Int), (0 : Int)), ()), (), (), ())) (br (x37.1.1 == (1 : Int)) (some ((((2 : Int), x1.1.1, IntKind.i64.wrap ((1 : Int) + x2.1.1), (0 : Int), (0 : Int), (0 : Int), [], [], (0 : Int), (0 : Int), (0 : Int), (0 : Int)), ()), (), (), ())) (br (x37.1.1 == (2 : Int)) (some ((((3 : Int), x1.1.1, IntKind.i64.wrap ((1 : Int) + x2.1.1), (0 : Int), (0 : Int), (0 : Int), [], [], (0 : Int), (0 : Int), (0 : Int), (0 : Int)), ()), (), (), ())) (br (x37.1.1 == (3 : Int)) (some ((((3 : Int), x1.1.1, IntKind.i64.wrap ((1 : Int) + x2.1.1), (0 : Int), (0 : Int), (0 : Int), [], [], (0 : Int), (0 : Int), (0 : Int), (0 : Int)), ()), (), (), ())) (br (x37.1.1 == (4 : Int)) (some ((((3 : Int), x1.1.1, IntKind.i64.wrap ((1 : Int) + x2.1.1), (0 : Int), (0 : Int), (0 : Int), [], [], (0 : Int), (0 : Int), (0 : Int), (0 : Int)), ()), (), (), ())) (br (x37.1.1 == (5 : Int)) (some ((((4 : Int), x1.1.1, IntKind.i64.wrap ((1 : Int) + x2.1.1), (0 : Int), (0 : Int), (0 : Int), [], [], (0 : Int), (0 : Int), (0 : Int),
 (0 : Int)), ()), (), (), ())) (br (x37.1.1 == (6 : Int)) (bd (grd (true && decide ((2 : Int) < (4611686018427387904 : Int))) ((a1 % (2 : Int), ()), (), (), ())) fun (x38 : (Int × Unit) × Unit × Unit × Unit) => some ((((5 : Int), x1.1.1, (0 : Int), IntKind.u16.wrap x38.1.1, (0 : Int), (0 : Int), [], [], (0 : Int), (0 : Int), (0 : Int), (0 : Int)), ()), (), (), ())) (br (x37.1.1 == (7 : Int)) (bd (grd (decide ((0 : Int) < (60000 : Int)) && decide ((60000 : Int) < (4611686018427387904 : Int))) ((a1 % (60000 : Int), ()), (), (), ())) fun (x39 : (Int × Unit) × Unit × Unit × Unit) => some ((((6 : Int), x1.1.1, (0 : Int), IntKind.u16.wrap x39.1.1, (0 : Int), (0 : Int), [], [], (0 : Int), (0 : Int), (0 : Int), (0 : Int)), ()), (), (), ())) (br (x37.1.1 == (8 : Int)) (bd (grd (decide ((0 : Int) < (60000 : Int)) && decide ((60000 : Int) < (4611686018427387904 : Int))) ((a1 % (60000 : Int), ()), (), (), ())) fun (x40 : (Int × Unit) × Unit × Unit × Unit) => some ((((6 : Int), x1.1.1, (0 : Int), IntKind.u16.wrap x40.1.1, (0 : Int), (0 : Int), [], [], (0 : Int), (0 : Int), (0 : Int), (0 : Int)), ()), (), (), ())) (br (x37.1.1 == (9 : Int)) (bd (grd (decide ((0 : Int) < (60000 : Int)) && decide ((60000 : Int) < (4611686018427387904 : Int))) ((a1 % (60000 : Int), ()), (), (), ())) fun (x41 : (Int × Unit) × Unit × Unit × Unit) => some ((((6 : Int), x1.1.1, (0 : Int), IntKind.u16.wrap x41.1.1, (0 : Int), (0 : Int), [], [], (0 : Int), (0 : Int), (0 : Int), (0 : Int)), ()), (), (), ())) (br (x37.1.1 == (10 : Int)) (bd (grd (true && (true && decide ((3 : Int) < (4611686018427387904 : Int)))) ((digitS a1 (64 : Int) (3 : Int), ()), (), (), (), ())) fun (x42 : (Int × Unit) × Unit × Unit × Unit × Unit) => br (x42.1.1 == (0 : Int)) (bd (grd (true && (true && decide ((20 : Int) < (4611686018427387904 : Int)))) ((digitS a0 (16 : Int) (20 : Int), ()), (), (), (), ())) fun (x43 : (Int × Unit) × Unit × Unit × Unit × Unit) => loopN ask_L3 K (a1, ((0 : Int), (0 : Int), (0 : Int), (0 : Int), (0 : Int), (0 : Int), (), (), (0 : Int), (0 : Int), (0 : Int), (0 : Int), ()), IntKind.i64.wrap ((14 : Int) + IntKind.i64.wrap ((1 : Int) + x2.1.1)), ((15 : Int), x43.1.1, IntKind.i64.wrap ((14 : Int) + IntKind.i64.wrap ((1 : Int) + x2.1.1)), (0 : Int), (0 : Int), (0 : Int), [], (), (0 : Int), (0 : Int), (0 : Int), (0 : Int), ()), (0 : Int), ())) (loopN ask_L4 K (a1, ((0 : Int), (0 : Int), (0 : Int), (0 : Int), (0 : Int), (0 : Int), (), (), (0 : Int), (0 : Int), (0 : Int), (0 : Int), ()), IntKind.i64.wrap ((1 : Int) + x2.1.1), ((15 : Int), x1.1.1, IntKind.i64.wrap ((1 : Int) + x2.1.1), (0 : Int), (0 : Int), (0 : Int), [], (), (0 : Int), (0 : Int), (0 : Int), (0 : Int), ()), (0 : Int), ()))) (br (x37.1.1 == (11 : Int)) (bd (grd (decide (IntKind.i64.wrap ((1 : Int) + x2.1.1) ≤ (1000 : Int))) ((wordsS a1 (IntKind.i64.wrap ((1 : Int) + x2.1.1)), ()), (), (), ())) fun (x60 : (List Int × Unit) × Unit × Unit × Unit) => some ((((16 : Int), x1.1.1, IntKind.i64.wrap ((1 : Int) + x2.1.1), (0 : Int),
 (0 : Int), (0 : Int), [], x60.1.1, (0 : Int), (0 : Int), (0 : Int), (0 : Int)), ()), (), (), ())) (br (x37.1.1 == (12 : Int)) (bd (grd (decide (IntKind.i64.wrap ((1 : Int) + x2.1.1) ≤ (1000 : Int))) ((wordsS a1 (IntKind.i64.wrap ((1 : Int) + x2.1.1)), ()), (), (), ())) fun (x61 : (List Int × Unit) × Unit × Unit × Unit) => some ((((16 : Int), x1.1.1, IntKind.i64.wrap ((1 : Int) + x2.1.1), (0 : Int), (0 : Int), (0 : Int), [], x61.1.1, (0 : Int), (0 : Int), (0 : Int), (0 : Int)), ()), (), (), ())) (br (x37.1.1 == (13 : Int)) (bd (grd (decide ((0 : Int) < (65536 : Int)) && decide ((65536 : Int) < (4611686018427387904 : Int))) ((a1 % (65536 : Int), ()), (), (), ())) fun (x62 : (Int × Unit) × Unit × Unit × Unit) => bd (grd (decide ((0 : Int) < (65536 : Int)) && (decide ((0 : Int) < (65536 : Int)) && decide ((65536 : Int) < (4611686018427387904 : Int)))) ((digitS a1 (65536 : Int) (65536 : Int), ()), (), (), (), ())) fun (x63 : (Int × Unit) × Unit × Unit × Unit × Unit) => some ((((22 : Int), x1.1.1, (0 : Int), (0 : Int), IntKind.u16.wrap x62.1.1, IntKind.u16.wrap x63.1.1, [], [], (0 : Int), (0 : Int), (0 : Int), (0 : Int)), ()), (), (), ())) (br (x37.1.1 == (14 : Int)) (bd (grd (decide (IntKind.i64.wrap ((1 : Int) + x2.1.1) ≤ (1000 : Int))) ((wordsS a1 (IntKind.i64.wrap ((1 : Int) + x2.1.1)), ()), (), (), ())) fun (x64 : (List Int × Unit) × Unit × Unit × Unit) => bd (grd (true && decide ((40 : Int) < (4611686018427387904 : Int))) ((a1 % (40 : Int), ()), (), (), ())) fun (x65 : (Int × Unit) × Unit × Unit × Unit) => bd (grd (true && (true && decide ((6 : Int) < (4611686018427387904 : Int)))) ((digitS a1 (40 : Int) (6 : Int), ()), (), (), (), ())) fun (x66 : (Int × Unit) × Unit × Unit × Unit × Unit) => some ((((23 : Int), x1.1.1, IntKind.i64.wrap ((1 : Int) + x2.1.1), (0 : Int), (0 : Int), (0 : Int), [], x64.1.1, x65.1.1, IntKind.i64.wrap ((1 : Int) + x66.1.1), (0 : Int), (0 : Int)), ()), (), (), ())) (bd (grd (true && decide ((4 : Int) < (4611686018427387904 : Int))) ((a1 % (4 : Int), ()), (), (), ())) fun (x67 : (Int × Unit) × Unit × Unit × Unit) => bd (grd (true && (true && decide ((5 : Int) < (4611686018427387904 : Int)))) ((digitS a1 (4 : Int) (5 : Int), ()), (), (), (), ())) fun (x68 : (Int × Unit) × Unit × Unit × Unit × Unit) => some ((((43 : Int), (0 : Int), (0 : Int), (0 : Int), (0 : Int), (0 : Int), [], [], (0 : Int), (0 : Int), IntKind.i64.wrap ((1 : Int) + x67.1.1), x68.1.1), ()), (), (), ())))))))))))))))))
theorem ask_rn (K : Nat) (a0 : Int) (a1 : Int) : runF (cfgW g_ask) K f_ask ask_tm [.val tI, .val tI] [.val tAsk] (a0, a1, ()) = ask_P K a0 a1 := by kernel_rfl
end
end Go.BB
set_option linter.unusedSimpArgs false
set_option linter.unusedVariables false
namespace Go.BB
open Go Go.Proofs
set_option maxRecDepth 100000
theorem v_words : Valid Try.prog n_words c_words := by
  refine valid_fn mixed hf_words (by kernel_rfl) rfl (ts := tmpsOf f_words.results.toList) (by kernel_rfl) (cfg := cfgW g_words) tt_ok (Γok_cons v_within Γok_nil) words_tm c_words (by kernel_rfl) (fun _ _ _ _ => ⟨⟩) ?_
  rintro ⟨(k : Int), (n : Int), ⟨⟩⟩ r u h
  obtain ⟨h1, h2⟩ := grd_some h
  have hn : n ≤ 1000 := of_decide_eq_true h1
  refine ⟨n.toNat + 1, (words_rn _ _ _).trans (Eq.trans ?_ (congrArg some h2))⟩
  show words_P (n.toNat + 1) k n = some ((wordsS k n, ()), ((), (), ()))
  unfold words_P
  have a0 := Int.emod_nonneg k (show (60000 : Int) ≠ 0 by decide)
  have a1 := Int.emod_lt_of_pos k (show (0 : Int) < 60000 by decide)
  refine loopN_for (step := words_L1) n.toNat (fun i => (k, n, (List.range i).map (fun (j : Nat) => IntKind.u16.wrap (k % 60000 + (j : Int))), (i : Int), ())) (fun i hi rec => ?_) (fun rec => ?_) (n.toNat + 1) (by omega)
  · have e : ((List.range i).map (fun (j : Nat) => IntKind.u16.wrap (k % 60000 + (j : Int)))).length = i := by simp
    simp only [words_L1]
    rw [br_dt (by omega), bd_grd (by decide)]
    simp only
    rw [wrapI (n := k % 60000 + (i : Int)) (by omega) (by omega), br_dt (by rw [e]; simp only [List.length_singleton, LIM]; omega), br_dt (by rw [e]; simp only [List.length_singleton, LIM]; omega), wrapI (by omega) (by omega)]
    have e2 : (List.range (i + 1)).map (fun (j : Nat) => IntKind.u16.wrap (k % 60000 + (j : Int))) = cat ((List.range i).map (fun (j : Nat) => IntKind.u16.wrap (k % 60000 + (j : Int)))) [IntKind.u16.wrap (k % 60000 + (i : Int))] := by
      rw [List.range_succ, List.map_append]; rfl
    rw [e2]
    rfl
  · simp only [words_L1]
    rw [br_df (by omega)]
    rfl
theorem brNTc {α : Type} {x y : α} : br (!false) x y = x := rfl
theorem ask_L2_eq : ask_L2 = ask_L1 := by kernel_rfl
theorem ask_bits (K : Nat) (v at1 n : Int) (h0 : 0 ≤ n) (h1 : n ≤ 100) (hK : 100 < K) :
    loopN ask_L1 K (v, ((0 : Int), (0 : Int), (0 : Int), (0 : Int), (0 : Int), (0 : Int), (), (), (0 : Int), (0 : Int), (0 : Int), (0 : Int), ()), n, ((15 : Int), at1, n, (0 : Int), (0 : Int), (0 : Int), [], (), (0 : Int), (0 : Int), (0 : Int), (0 : Int), ()), (0 : Int), ()) = some ((ask0 15 at1 n 0 0 0 (bitsS v n) [] 0 0 0 0, ()), (), (), ()) := by
  refine loopN_for (step := ask_L1) n.toNat (fun i => (v, ((0 : Int), (0 : Int), (0 : Int), (0 : Int), (0 : Int), (0 : Int), (), (), (0 : Int), (0 : Int), (0 : Int), (0 : Int), ()), n, ((15 : Int), at1, n, (0 : Int), (0 : Int), (0 : Int), (List.range i).map (fun (j : Nat) => (v % (7 + (j : Int))).tmod 2 == 1), (), (0 : Int), (0 : Int), (0 : Int), (0 : Int), ()), (i : Int), ())) (fun i hi rec => ?_) (fun rec => ?_) K (by omega)
  · have e : ((List.range i).map (fun (j : Nat) => (v % (7 + (j : Int))).tmod 2 == 1)).length = i := by simp
    simp only [ask_L1]
    rw [br_dt (by omega), wrapI (n := 7 + (i : Int)) (by omega) (by omega), bd_grd (and_t (decide_eq_true (by omega)) (decide_eq_true (by omega)))]
    simp only
    rw [brNTc, br_dt (by rw [e]; simp only [List.length_singleton, LIM]; omega), br_dt (by rw [e]; simp only [List.length_singleton, LIM]; omega), wrapI (by omega) (by omega)]
    have e2 : (List.range (i + 1)).map (fun (j : Nat) => (v % (7 + (j : Int))).tmod 2 == 1) = cat ((List.range i).map (fun (j : Nat) => (v % (7 + (j : Int))).tmod 2 == 1)) [(v % (7 + (i : Int))).tmod 2 == 1] := by
      rw [List.range_succ, List.map_append]; rfl
    rw [e2]
    rfl
  · simp only [ask_L1]
    rw [br_df (by omega)]
    rfl
end Go.BB
