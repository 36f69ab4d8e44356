/- A symbolic machine for the model's code, and what it shows of this seat's functions. No conditions. -/
import Derived.Test.YtcdnkkakfkkpgaaQSCom
set_option linter.unusedSimpArgs false
set_option linter.unusedVariables false
/-! plain lemmas on what loops compute -/
namespace Go.BB
open Go
theorem wrapI {n : Int} (h1 : -9223372036854775808 ≤ n) (h2 : n ≤ 9223372036854775807) : IntKind.i64.wrap n = n := by
  simp [IntKind.wrap, IntKind.signed, IntKind.bits]; omega
theorem wrapU {n : Int} (h1 : 0 ≤ n) (h2 : n ≤ 18446744073709551615) : IntKind.u64.wrap n = n := by
  simp [IntKind.wrap, IntKind.signed, IntKind.bits]; omega
theorem wrapW {n : Int} (h1 : 0 ≤ n) (h2 : n ≤ 65535) : IntKind.u16.wrap n = n := by
  simp [IntKind.wrap, IntKind.signed, IntKind.bits]; omega
theorem wrapB {n : Int} (h1 : 0 ≤ n) (h2 : n ≤ 255) : IntKind.u8.wrap n = n := by
  simp [IntKind.wrap, IntKind.signed, IntKind.bits]; omega
theorem splice_lent {α : Type} (z : α) (l : List α) : splice (List.replicate (l.length + 3) z) l 0 (List.replicate (l.length + 3) z).length = l ++ [z, z, z] := by
  simp only [splice, List.take_zero, List.nil_append, List.length_replicate, Nat.zero_add]
  rw [List.take_of_length_le (by omega), show Nat.min l.length (l.length + 3) = l.length from Nat.min_eq_left (by omega), List.drop_replicate, show l.length + 3 - l.length = 3 by omega]
  rfl
theorem lent_loop {α : Type} (z m : α) (l : List α) (hl : l.length < 1000000) {step : (List α × List α × Int × Unit → Option (((List α × Nat) × Unit) × Unit × Unit)) → List α × List α × Int × Unit → Option (((List α × Nat) × Unit) × Unit × Unit)}
    (hstep : ∀ rec (y3 y4 : List α) (y5 : Int), step rec (y3, y4, y5, ()) = br (decide (y5 < (↑y4.length : Int)))
      (br (decide ((0 : Int) ≤ y5)) (br (decide (y5 < (↑y4.length : Int))) (rec (y3, y4.set y5.toNat m, IntKind.i64.wrap (y5 + (1 : Int)), ())) none) none)
      (br (decide ((↑y3.length : Int) ≤ (↑y4.length : Int))) (some (((y4, (↑y3.length : Int).toNat), ()), (), ())) none)) :
    loopN step 4 (l, splice (List.replicate (l.length + 3) z) l 0 (List.replicate (l.length + 3) z).length, (l.length : Int), ()) = some (((lentS m l, l.length), ()), (), ()) := by
  rw [splice_lent]
  refine loopN_for 3 (fun i => (l, l ++ (List.replicate i m ++ List.replicate (3 - i) z), ((l.length + i : Nat) : Int), ())) (fun i hi rec => ?_) (fun rec => ?_) 4 (by omega)
  · have e : ((l.length + i : Nat) : Int).toNat = l.length + i := by omega
    rw [hstep, br_dt (by simp; omega), br_dt (by omega), br_dt (by simp; omega), wrapI (by omega) (by omega), e]
    congr 1
    refine Prod.ext rfl (Prod.ext ?_ (Prod.ext (by simp; omega) rfl))
    show (l ++ (List.replicate i m ++ List.replicate (3 - i) z)).set (l.length + i) m = _
    rw [List.set_append_right _ _ (by omega), show l.length + i - l.length = i by omega, List.set_append_right _ _ (by simp), List.length_replicate, Nat.sub_self]
    match i, hi with
    | 0, _ => rfl
    | 1, _ => rfl
    | 2, _ => rfl
  · rw [hstep, br_df (by simp), br_dt (by simp; omega)]
    simp [lentS]
theorem getD_app_lt {α : Type} (l r : List α) (i : Nat) (z : α) (h : i < l.length) : (l ++ r).getD i z = l.getD i z := by
  simp [List.getD_eq_getElem?_getD, List.getElem?_append_left h]
theorem getD_app_ge {α : Type} (l r : List α) (i : Nat) (z : α) (h : l.length ≤ i) : (l ++ r).getD i z = r.getD (i - l.length) z := by
  simp [List.getD_eq_getElem?_getD, List.getElem?_append_right h]
theorem stays_loop {α : Type} (z m : α) (e : α → α → Bool) (he : ∀ a, e a a = true) (l : List α) (hl : l.length < 1000000)
    {step : (List α × (List α × Nat) × Int × Unit → Option ((Bool × Unit) × List α × Unit × Unit)) → List α × (List α × Nat) × Int × Unit → Option ((Bool × Unit) × List α × Unit × Unit)}
    (hstep : ∀ rec (y3 : List α) (y4 : List α × Nat) (y5 : Int), step rec (y3, y4, y5, ()) =
      br (decide (y5 < (↑y4.2 : Int)))
        (br (decide (y5 < (↑y3.length : Int)))
          (br (decide ((0 : Int) ≤ y5))
            (br (decide (y5 < (↑y4.2 : Int)))
              (br (decide ((0 : Int) ≤ y5))
                (br (decide (y5 < (↑y3.length : Int)))
                  (br (!(e (y4.1.getD y5.toNat z) (y3.getD y5.toNat z)))
                    (some ((false, ()), y4.1, (), ()))
                    (br (decide (y5 ≥ (↑y3.length : Int)))
                      (br (decide ((0 : Int) ≤ y5))
                        (br (decide (y5 < (↑y4.2 : Int)))
                          (br (!(e (y4.1.getD y5.toNat z) m))
                            (some ((false, ()), y4.1, (), ()))
                            (rec (y3, (y4.1, y4.2), IntKind.i64.wrap (y5 + (1 : Int)), ())))
                          none)
                        none)
                      (rec (y3, (y4.1, y4.2), IntKind.i64.wrap (y5 + (1 : Int)), ()))))
                  none)
                none)
              none)
            none)
          (br (decide (y5 ≥ (↑y3.length : Int)))
            (br (decide ((0 : Int) ≤ y5))
              (br (decide (y5 < (↑y4.2 : Int)))
                (br (!(e (y4.1.getD y5.toNat z) m)) (some ((false, ()), y4.1, (), ()))
                  (rec (y3, (y4.1, y4.2), IntKind.i64.wrap (y5 + (1 : Int)), ())))
                none)
              none)
            (rec (y3, (y4.1, y4.2), IntKind.i64.wrap (y5 + (1 : Int)), ()))))
        (some ((true, ()), y4.1, (), ()))) :
    ∀ K, l.length + 3 < K → loopN step K (l, (lentS m l, l.length + 3), 0, ()) = some ((true, ()), lentS m l, (), ()) := by
  refine loopN_for (l.length + 3) (fun i => (l, (lentS m l, l.length + 3), (i : Int), ())) (fun i hi rec => ?_) (fun rec => ?_)
  · have ei : ((i : Nat) : Int).toNat = i := by omega
    rw [hstep, br_dt (by simp; omega), wrapI (by omega) (by omega), ei]
    by_cases h : i < l.length
    · have eg : (lentS m l).getD i z = l.getD i z := getD_app_lt _ _ _ _ h
      rw [br_dt (by omega), br_dt (by omega), br_dt (by simp; omega), br_dt (by omega), br_dt (by omega), br_f (by simp only [eg, he]; rfl), br_df (by omega)]
      simp
    · have eg : (lentS m l).getD i z = m := by
        unfold lentS
        rw [getD_app_ge _ _ _ _ (by omega)]
        match h2 : i - l.length, (show i - l.length < 3 by omega) with
        | 0, _ => rfl
        | 1, _ => rfl
        | 2, _ => rfl
      rw [br_df (by omega), br_dt (by omega), br_dt (by omega), br_dt (by simp; omega), br_f (by simp only [eg, he]; rfl)]
      simp
  · rw [hstep, br_df (by simp)]
theorem same_loop {α : Type} [DecidableEq α] (z : α) (e : α → α → Bool) (he : ∀ a b, e a b = decide (a = b)) (a b : List α) (hab : a.length = b.length)
    {step : (List α × List α × Int × Unit → Option ((Bool × Unit) × Unit × Unit × Unit)) → List α × List α × Int × Unit → Option ((Bool × Unit) × Unit × Unit × Unit)}
    (hstep : ∀ rec (y3 y4 : List α) (y5 : Int), step rec (y3, y4, y5, ()) =
      br (decide (y5 < (↑y3.length : Int)))
        (br (decide ((0 : Int) ≤ y5))
          (br (decide (y5 < (↑y3.length : Int)))
            (br (decide ((0 : Int) ≤ y5))
              (br (decide (y5 < (↑y4.length : Int)))
                (br (!(e (y3.getD y5.toNat z) (y4.getD y5.toNat z)))
                  (some ((false, ()), (), (), ())) (rec (y3, y4, IntKind.i64.wrap (y5 + (1 : Int)), ())))
                none)
              none)
            none)
          none)
        (some ((true, ()), (), (), ()))) (hl : a.length < 4611686018427387904) :
    ∀ K, a.length < K → loopN step K (a, b, 0, ()) = some ((sameS a b, ()), (), (), ()) := by
  intro K hK
  refine loopN_meas (fun x => a.length - x.2.2.1.toNat) (fun x => ∃ i : Nat, i ≤ a.length ∧ x = (a, b, (i : Int), ()) ∧ a.take i = b.take i) (fun _ => some ((sameS a b, ()), (), (), ())) ?_ K (a, b, 0, ()) ⟨0, by omega, rfl, by simp⟩ (by simpa using hK)
  rintro x ⟨i, hi, rfl, ht⟩ rec hrec
  rw [hstep]
  have ei : ((i : Nat) : Int).toNat = i := by omega
  by_cases h : i < a.length
  · rw [br_dt (by omega), br_dt (by omega), br_dt (by omega), br_dt (by omega), br_dt (by omega), wrapI (by omega) (by omega), ei, he]
    by_cases hx : a.getD i z = b.getD i z
    · rw [br_f (by rw [decide_eq_true hx]; rfl)]
      refine hrec _ ⟨i + 1, by omega, by simp, ?_⟩ (by simp only; omega)
      rw [List.take_add_one, List.take_add_one, ht]
      congr 1
      rw [List.getD_eq_getElem?_getD, List.getD_eq_getElem?_getD, List.getElem?_eq_getElem h, List.getElem?_eq_getElem (by omega : i < b.length)] at hx
      rw [List.getElem?_eq_getElem h, List.getElem?_eq_getElem (by omega : i < b.length)]
      simpa using hx
    · rw [br_t (by simp only [decide_eq_false hx]; rfl)]
      have : sameS a b = false := by
        unfold sameS
        apply decide_eq_false
        rintro rfl
        exact hx rfl
      rw [this]
  · rw [br_df (by omega)]
    have : sameS a b = true := by
      unfold sameS
      apply decide_eq_true
      rwa [List.take_of_length_le (by omega), List.take_of_length_le (by omega)] at ht
    rw [this]
theorem mayB_of {α : Type} {e : Bool} {x y : Option α} (h : e = true → x = y) : mayB e x y = y := by
  unfold mayB
  cases e with
  | false => rfl
  | true =>
    unfold agree
    simp only [h rfl, if_true]
end Go.BB
