/- A symbolic machine for the model's code, and what it shows of this seat's functions. No conditions. -/
import Derived.Test.YteaomngbkklfoaaRSStore
import Derived.Test.YteaomngbkklfoaaRGcom
set_option linter.unusedVariables false
set_option linter.unusedSimpArgs false
/-! plain lemmas on what loops compute -/
namespace Go.BB
open Go
theorem wrapI {n : Int} (h1 : -9223372036854775808 ≤ n) (h2 : n ≤ 9223372036854775807) : IntKind.i64.wrap n = n := by
  simp [IntKind.wrap, IntKind.signed, IntKind.bits]; omega
theorem wrapU {n : Int} (h1 : 0 ≤ n) (h2 : n ≤ 18446744073709551615) : IntKind.u64.wrap n = n := by
  simp [IntKind.wrap, IntKind.signed, IntKind.bits]; omega
theorem wrapW {n : Int} (h1 : 0 ≤ n) (h2 : n ≤ 65535) : IntKind.u16.wrap n = n := by
  simp [IntKind.wrap, IntKind.signed, IntKind.bits]; omega
theorem wrapB {n : Int} (h1 : 0 ≤ n) (h2 : n ≤ 255) : IntKind.u8.wrap n = n := by
  simp [IntKind.wrap, IntKind.signed, IntKind.bits]; omega
theorem splice_lent {α : Type} (z : α) (l : List α) : splice (List.replicate (l.length + 3) z) l 0 (List.replicate (l.length + 3) z).length = l ++ [z, z, z] := by
  simp only [splice, List.take_zero, List.nil_append, List.length_replicate, Nat.zero_add]
  rw [List.take_of_length_le (by omega), show Nat.min l.length (l.length + 3) = l.length from Nat.min_eq_left (by omega), List.drop_replicate, show l.length + 3 - l.length = 3 by omega]
  rfl
theorem lent_loop {α : Type} (z m : α) (l : List α) (hl : l.length < 1000000) {step : (List α × List α × Int × Unit → Option (((List α × Nat) × Unit) × Unit × Unit)) → List α × List α × Int × Unit → Option (((List α × Nat) × Unit) × Unit × Unit)}
    (hstep : ∀ rec (y3 y4 : List α) (y5 : Int), step rec (y3, y4, y5, ()) = br (decide (y5 < (↑y4.length : Int)))
      (br (decide ((0 : Int) ≤ y5)) (br (decide (y5 < (↑y4.length : Int))) (rec (y3, y4.set y5.toNat m, IntKind.i64.wrap (y5 + (1 : Int)), ())) none) none)
      (br (decide ((↑y3.length : Int) ≤ (↑y4.length : Int))) (some (((y4, (↑y3.length : Int).toNat), ()), (), ())) none)) :
    loopN step 4 (l, splice (List.replicate (l.length + 3) z) l 0 (List.replicate (l.length + 3) z).length, (l.length : Int), ()) = some (((lentS m l, l.length), ()), (), ()) := by
  rw [splice_lent]
  refine loopN_for 3 (fun i => (l, l ++ (List.replicate i m ++ List.replicate (3 - i) z), ((l.length + i : Nat) : Int), ())) (fun i hi rec => ?_) (fun rec => ?_) 4 (by omega)
  · have e : ((l.length + i : Nat) : Int).toNat = l.length + i := by omega
    rw [hstep, br_dt (by simp; omega), br_dt (by omega), br_dt (by simp; omega), wrapI (by omega) (by omega), e]
    congr 1
    refine Prod.ext rfl (Prod.ext ?_ (Prod.ext (by simp; omega) rfl))
    show (l ++ (List.replicate i m ++ List.replicate (3 - i) z)).set (l.length + i) m = _
    rw [List.set_append_right _ _ (by omega), show l.length + i - l.length = i by omega, List.set_append_right _ _ (by simp), List.length_replicate, Nat.sub_self]
    match i, hi with
    | 0, _ => rfl
    | 1, _ => rfl
    | 2, _ => rfl
  · rw [hstep, br_df (by simp), br_dt (by simp; omega)]
    simp [lentS]
theorem getD_app_lt {α : Type} (l r : List α) (i : Nat) (z : α) (h : i < l.length) : (l ++ r).getD i z = l.getD i z := by
  simp [List.getD_eq_getElem?_getD, List.getElem?_append_left h]
theorem getD_app_ge {α : Type} (l r : List α) (i : Nat) (z : α) (h : l.length ≤ i) : (l ++ r).getD i z = r.getD (i - l.length) z := by
  simp [List.getD_eq_getElem?_getD, List.getElem?_append_right h]
theorem stays_loop {α : Type} (z m : α) (e : α → α → Bool) (he : ∀ a, e a a = true) (l : List α) (hl : l.length < 1000000)
    {step : (List α × (List α × Nat) × Int × Unit → Option ((Bool × Unit) × List α × Unit × Unit)) → List α × (List α × Nat) × Int × Unit → Option ((Bool × Unit) × List α × Unit × Unit)}
    (hstep : ∀ rec (y3 : List α) (y4 : List α × Nat) (y5 : Int), step rec (y3, y4, y5, ()) =
      br (decide (y5 < (↑y4.2 : Int)))
        (br (decide (y5 < (↑y3.length : Int)))
          (br (decide ((0 : Int) ≤ y5))
            (br (decide (y5 < (↑y4.2 : Int)))
              (br (decide ((0 : Int) ≤ y5))
                (br (decide (y5 < (↑y3.length : Int)))
                  (br (!(e (y4.1.getD y5.toNat z) (y3.getD y5.toNat z)))
                    (some ((false, ()), y4.1, (), ()))
                    (br (decide (y5 ≥ (↑y3.length : Int)))
                      (br (decide ((0 : Int) ≤ y5))
                        (br (decide (y5 < (↑y4.2 : Int)))
                          (br (!(e (y4.1.getD y5.toNat z) m))
                            (some ((false, ()), y4.1, (), ()))
                            (rec (y3, (y4.1, y4.2), IntKind.i64.wrap (y5 + (1 : Int)), ())))
                          none)
                        none)
                      (rec (y3, (y4.1, y4.2), IntKind.i64.wrap (y5 + (1 : Int)), ()))))
                  none)
                none)
              none)
            none)
          (br (decide (y5 ≥ (↑y3.length : Int)))
            (br (decide ((0 : Int) ≤ y5))
              (br (decide (y5 < (↑y4.2 : Int)))
                (br (!(e (y4.1.getD y5.toNat z) m)) (some ((false, ()), y4.1, (), ()))
                  (rec (y3, (y4.1, y4.2), IntKind.i64.wrap (y5 + (1 : Int)), ())))
                none)
              none)
            (rec (y3, (y4.1, y4.2), IntKind.i64.wrap (y5 + (1 : Int)), ()))))
        (some ((true, ()), y4.1, (), ()))) :
    ∀ K, l.length + 3 < K → loopN step K (l, (lentS m l, l.length + 3), 0, ()) = some ((true, ()), lentS m l, (), ()) := by
  refine loopN_for (l.length + 3) (fun i => (l, (lentS m l, l.length + 3), (i : Int), ())) (fun i hi rec => ?_) (fun rec => ?_)
  · have ei : ((i : Nat) : Int).toNat = i := by omega
    rw [hstep, br_dt (by simp; omega), wrapI (by omega) (by omega), ei]
    by_cases h : i < l.length
    · have eg : (lentS m l).getD i z = l.getD i z := getD_app_lt _ _ _ _ h
      rw [br_dt (by omega), br_dt (by omega), br_dt (by simp; omega), br_dt (by omega), br_dt (by omega), br_f (by simp only [eg, he]; rfl), br_df (by omega)]
      simp
    · have eg : (lentS m l).getD i z = m := by
        unfold lentS
        rw [getD_app_ge _ _ _ _ (by omega)]
        match h2 : i - l.length, (show i - l.length < 3 by omega) with
        | 0, _ => rfl
        | 1, _ => rfl
        | 2, _ => rfl
      rw [br_df (by omega), br_dt (by omega), br_dt (by omega), br_dt (by simp; omega), br_f (by simp only [eg, he]; rfl)]
      simp
  · rw [hstep, br_df (by simp)]
theorem same_loop {α : Type} [DecidableEq α] (z : α) (e : α → α → Bool) (he : ∀ a b, e a b = decide (a = b)) (a b : List α) (hab : a.length = b.length)
    {step : (List α × List α × Int × Unit → Option ((Bool × Unit) × Unit × Unit × Unit)) → List α × List α × Int × Unit → Option ((Bool × Unit) × Unit × Unit × Unit)}
    (hstep : ∀ rec (y3 y4 : List α) (y5 : Int), step rec (y3, y4, y5, ()) =
      br (decide (y5 < (↑y3.length : Int)))
        (br (decide ((0 : Int) ≤ y5))
          (br (decide (y5 < (↑y3.length : Int)))
            (br (decide ((0 : Int) ≤ y5))
              (br (decide (y5 < (↑y4.length : Int)))
                (br (!(e (y3.getD y5.toNat z) (y4.getD y5.toNat z)))
                  (some ((false, ()), (), (), ())) (rec (y3, y4, IntKind.i64.wrap (y5 + (1 : Int)), ())))
                none)
              none)
            none)
          none)
        (some ((true, ()), (), (), ()))) (hl : a.length < 4611686018427387904) :
    ∀ K, a.length < K → loopN step K (a, b, 0, ()) = some ((sameS a b, ()), (), (), ()) := by
  intro K hK
  refine loopN_meas (fun x => a.length - x.2.2.1.toNat) (fun x => ∃ i : Nat, i ≤ a.length ∧ x = (a, b, (i : Int), ()) ∧ a.take i = b.take i) (fun _ => some ((sameS a b, ()), (), (), ())) ?_ K (a, b, 0, ()) ⟨0, by omega, rfl, by simp⟩ (by simpa using hK)
  rintro x ⟨i, hi, rfl, ht⟩ rec hrec
  rw [hstep]
  have ei : ((i : Nat) : Int).toNat = i := by omega
  by_cases h : i < a.length
  · rw [br_dt (by omega), br_dt (by omega), br_dt (by omega), br_dt (by omega), br_dt (by omega), wrapI (by omega) (by omega), ei, he]
    by_cases hx : a.getD i z = b.getD i z
    · rw [br_f (by rw [decide_eq_true hx]; rfl)]
      refine hrec _ ⟨i + 1, by omega, by simp, ?_⟩ (by simp only; omega)
      rw [List.take_add_one, List.take_add_one, ht]
      congr 1
      rw [List.getD_eq_getElem?_getD, List.getD_eq_getElem?_getD, List.getElem?_eq_getElem h, List.getElem?_eq_getElem (by omega : i < b.length)] at hx
      rw [List.getElem?_eq_getElem h, List.getElem?_eq_getElem (by omega : i < b.length)]
      simpa using hx
    · rw [br_t (by simp only [decide_eq_false hx]; rfl)]
      have : sameS a b = false := by
        unfold sameS
        apply decide_eq_false
        rintro rfl
        exact hx rfl
      rw [this]
  · rw [br_df (by omega)]
    have : sameS a b = true := by
      unfold sameS
      apply decide_eq_true
      rwa [List.take_of_length_le (by omega), List.take_of_length_le (by omega)] at ht
    rw [this]
theorem mayB_of {α : Type} {e : Bool} {x y : Option α} (h : e = true → x = y) : mayB e x y = y := by
  unfold mayB
  cases e with
  | false => rfl
  | true =>
    unfold agree
    simp only [h rfl, if_true]
end Go.BB
set_option linter.unusedSimpArgs false
set_option linter.unusedVariables false
namespace Go.BB
open Go Go.Proofs
set_option maxRecDepth 100000
theorem lim_mul {n b : Nat} (h : n < 2000000) (hb : b ≤ 1000) : n * b ≤ LIM := Nat.le_trans (Nat.mul_le_mul (Nat.le_of_lt h) hb) (by decide)
theorem lim_le {n : Nat} (h : n < 2000000) : n ≤ LIM := Nat.le_trans (Nat.le_of_lt h) (by decide)
theorem emod_tmod (k n : Int) (h1 : 0 < n) : (k.tmod n < 0 ∧ k.tmod n + n = k % n) ∨ (¬ k.tmod n < 0 ∧ k.tmod n = k % n) := by
  have hm := Int.emod_nonneg k (show n ≠ 0 by omega)
  have hm2 := Int.emod_lt_of_pos k h1
  have hl : -n < k.tmod n ∧ k.tmod n < n := ⟨Int.lt_tmod_of_pos k h1, Int.tmod_lt_of_pos k h1⟩
  have he : k.tmod n = k % n ∨ k.tmod n = k % n - n := by
    rw [Int.tmod_eq_emod]
    split
    · left; omega
    · right
      have : (n.natAbs : Int) = n := by omega
      omega
  omega
theorem v_within : Valid Try.prog n_within c_within := by
  refine valid_fn mixed hf_within (by kernel_rfl) rfl (ts := tmpsOf f_within.results.toList) (by kernel_rfl) (cfg := cfgW g_within) tt_ok Γok_nil within_tm c_within (by kernel_rfl) (fun _ _ _ _ => ⟨⟩) ?_
  rintro ⟨(k : Int), (n : Int), ⟨⟩⟩ r u h
  obtain ⟨h1, h2⟩ := grd_some h
  simp only at h1 h2
  refine ⟨0, (within_rn _ _ _).trans (Eq.trans ?_ (congrArg some h2))⟩
  simp only [Bool.and_eq_true, decide_eq_true_eq] at h1
  have hm := Int.emod_nonneg k (show n ≠ 0 by omega)
  have hm2 := Int.emod_lt_of_pos k h1.1
  unfold within_P
  rw [br_t (by simp [show ¬ n = 0 by omega])]
  rcases emod_tmod k n h1.1 with ⟨h3, h4⟩ | ⟨h3, h4⟩
  · rw [br_dt h3, h4, wrapI (by omega) (by omega)]
    rfl
  · rw [br_df h3, h4]
    rfl
theorem v_digit : Valid Try.prog n_digit c_digit := by
  refine valid_fn mixed hf_digit (by kernel_rfl) rfl (ts := tmpsOf f_digit.results.toList) (by kernel_rfl) (cfg := cfgW g_digit) tt_ok (Γok_cons v_within Γok_nil) digit_tm c_digit (by kernel_rfl) (fun _ _ _ _ => ⟨⟩) ?_
  rintro ⟨(k : Int), (d : Int), (n : Int), ⟨⟩⟩ r u h
  obtain ⟨h1, h2⟩ := grd_some h
  simp only at h1 h2
  refine ⟨0, (digit_rn _ _ _ _).trans (Eq.trans ?_ (congrArg some h2))⟩
  simp only [Bool.and_eq_true, decide_eq_true_eq] at h1
  unfold digit_P
  rw [br_t (by simp [show ¬ d = 0 by omega]), bd_grd (by simp [h1.2.1, h1.2.2])]
  rfl
theorem v_sameWords : Valid Try.prog n_sameWords c_sameWords := by
  refine valid_fn mixed hf_sameWords (by kernel_rfl) rfl (ts := tmpsOf f_sameWords.results.toList) (by kernel_rfl) (cfg := cfgW g_sameWords) tt_ok Γok_nil sameWords_tm c_sameWords (by kernel_rfl) (fun _ _ _ _ => ⟨⟩) ?_
  rintro ⟨(a : List Int), (b : List Int), ⟨⟩⟩ r u h
  obtain ⟨h1, h2⟩ := grd_some h
  simp only at h1 h2
  refine ⟨a.length + 1, (sameWords_rn _ a b).trans (Eq.trans ?_ (congrArg some h2))⟩
  have hl := of_decide_eq_true h1
  unfold sameWords_P
  by_cases hab : a.length = b.length
  · rw [br_f (by simp [hab])]
    exact same_loop (0 : Int) (fun a b => a == b) (by intro a b; rfl) a b hab (fun _ _ _ _ => rfl) (by omega) _ (by omega)
  · rw [br_t (by simp; omega)]
    have : sameS a b = false := by
      unfold sameS
      apply decide_eq_false
      rintro rfl
      exact hab rfl
    rw [this]
    rfl
theorem v_lentSpans : Valid Try.prog n_lentSpans c_lentSpans := by
  refine valid_fn mixed hf_lentSpans (by kernel_rfl) rfl (ts := tmpsOf f_lentSpans.results.toList) (by kernel_rfl) (cfg := cfgW g_lentSpans) tt_ok Γok_nil lentSpans_tm c_lentSpans (by kernel_rfl) (fun _ _ _ _ => ⟨⟩) ?_
  rintro ⟨(l : List (Int × Int × Int)), ⟨⟩⟩ r u h
  obtain ⟨h1, h2⟩ := grd_some h
  simp only at h1 h2
  refine ⟨4, (lentSpans_rn _ l).trans (Eq.trans ?_ (congrArg some h2))⟩
  have hl := of_decide_eq_true h1
  have e3 : IntKind.i64.wrap ((↑(List.length l) : Int) + (3 : Int)) = (l.length : Int) + 3 := wrapI (by omega) (by omega)
  have e4 : ((l.length : Int) + 3).toNat = l.length + 3 := by omega
  unfold lentSpans_P
  rw [e3, e4, br_dt (by omega), br_dt (by omega), br_dt (lim_mul (by omega) (by decide)), br_dt (lim_le (by omega))]
  exact lent_loop ((0 : Int), (0 : Int), (0 : Int)) ((7 : Int), (7 : Int), (7 : Int)) l hl (fun _ _ _ _ => rfl)
theorem v_staysSpans : Valid Try.prog n_staysSpans c_staysSpans := by
  refine valid_fn mixed hf_staysSpans (by kernel_rfl) rfl (ts := tmpsOf f_staysSpans.results.toList) (by kernel_rfl) (cfg := cfgW g_staysSpans) tt_ok Γok_nil staysSpans_tm c_staysSpans (by kernel_rfl) (fun x r u h => by obtain ⟨_, h2⟩ := grd_some h; cases h2; exact ⟨rfl, ⟨⟩⟩) ?_
  rintro ⟨⟨(ys : List (Int × Int × Int)), (n : Nat)⟩, (l : List (Int × Int × Int)), ⟨⟩⟩ r u h
  obtain ⟨h1, h2⟩ := grd_some h
  simp only at h1 h2
  refine ⟨l.length + 4, (staysSpans_rn _ (ys, n) l).trans (Eq.trans ?_ (congrArg some h2))⟩
  simp only [staysS, Bool.and_eq_true, decide_eq_true_eq] at h1
  obtain ⟨⟨rfl, rfl⟩, hl⟩ := h1
  have e3 : IntKind.i64.wrap ((↑(List.length l) : Int) + (3 : Int)) = (l.length : Int) + 3 := wrapI (by omega) (by omega)
  have e4 : ((l.length : Int) + 3).toNat = l.length + 3 := by omega
  unfold staysSpans_P
  rw [br_f (by simp), e3, e4, br_dt (by omega), br_dt (by simp)]
  exact stays_loop ((0 : Int), (0 : Int), (0 : Int)) ((7 : Int), (7 : Int), (7 : Int)) (fun a b => (a.1 == b.1 && (a.2.1 == b.2.1 && a.2.2 == b.2.2))) (by simp) l hl (fun _ _ _ _ => rfl) _ (by omega)
theorem v_sameSpans : Valid Try.prog n_sameSpans c_sameSpans := by
  refine valid_fn mixed hf_sameSpans (by kernel_rfl) rfl (ts := tmpsOf f_sameSpans.results.toList) (by kernel_rfl) (cfg := cfgW g_sameSpans) tt_ok Γok_nil sameSpans_tm c_sameSpans (by kernel_rfl) (fun _ _ _ _ => ⟨⟩) ?_
  rintro ⟨(a : List (Int × Int × Int)), (b : List (Int × Int × Int)), ⟨⟩⟩ r u h
  obtain ⟨h1, h2⟩ := grd_some h
  simp only at h1 h2
  refine ⟨a.length + 1, (sameSpans_rn _ a b).trans (Eq.trans ?_ (congrArg some h2))⟩
  have hl := of_decide_eq_true h1
  unfold sameSpans_P
  by_cases hab : a.length = b.length
  · rw [br_f (by simp [hab])]
    exact same_loop ((0 : Int), (0 : Int), (0 : Int)) (fun a b => (a.1 == b.1 && (a.2.1 == b.2.1 && a.2.2 == b.2.2))) (by rintro ⟨a1, a2, a3⟩ ⟨b1, b2, b3⟩; by_cases h : a1 = b1 <;> by_cases h2 : a2 = b2 <;> by_cases h3 : a3 = b3 <;> simp [h, h2, h3]) a b hab (fun _ _ _ _ => rfl) (by omega) _ (by omega)
  · rw [br_t (by simp; omega)]
    have : sameS a b = false := by
      unfold sameS
      apply decide_eq_false
      rintro rfl
      exact hab rfl
    rw [this]
    rfl
theorem v_cloneSpans : Valid Try.prog n_cloneSpans c_cloneSpans := by
  refine valid_fn mixed hf_cloneSpans (by kernel_rfl) rfl (ts := tmpsOf f_cloneSpans.results.toList) (by kernel_rfl) (cfg := cfgW g_cloneSpans) tt_ok Γok_nil cloneSpans_tm c_cloneSpans (by kernel_rfl) (fun _ _ _ _ => ⟨⟩) ?_
  rintro ⟨(l : List (Int × Int × Int)), ⟨⟩⟩ r u h
  obtain ⟨h1, h2⟩ := grd_some h
  simp only at h1 h2
  refine ⟨0, (cloneSpans_rn _ l).trans (Eq.trans ?_ (congrArg some h2))⟩
  have hl := of_decide_eq_true h1
  unfold cloneSpans_P
  rw [br_dt (lim_mul (by omega) (by decide)), br_dt (lim_le (by omega))]
  refine mayB_of fun he => ?_
  cases l with
  | nil => rfl
  | cons a l => cases he
theorem v_lentCells : Valid Try.prog n_lentCells c_lentCells := by
  refine valid_fn mixed hf_lentCells (by kernel_rfl) rfl (ts := tmpsOf f_lentCells.results.toList) (by kernel_rfl) (cfg := cfgW g_lentCells) tt_ok Γok_nil lentCells_tm c_lentCells (by kernel_rfl) (fun _ _ _ _ => ⟨⟩) ?_
  rintro ⟨(l : List ((Int × Int) × Int)), ⟨⟩⟩ r u h
  obtain ⟨h1, h2⟩ := grd_some h
  simp only at h1 h2
  refine ⟨4, (lentCells_rn _ l).trans (Eq.trans ?_ (congrArg some h2))⟩
  have hl := of_decide_eq_true h1
  have e3 : IntKind.i64.wrap ((↑(List.length l) : Int) + (3 : Int)) = (l.length : Int) + 3 := wrapI (by omega) (by omega)
  have e4 : ((l.length : Int) + 3).toNat = l.length + 3 := by omega
  unfold lentCells_P
  rw [e3, e4, br_dt (by omega), br_dt (by omega), br_dt (lim_mul (by omega) (by decide)), br_dt (lim_le (by omega))]
  exact lent_loop (((0 : Int), (0 : Int)), (0 : Int)) (((0 : Int), (0 : Int)), (7 : Int)) l hl (fun _ _ _ _ => rfl)
theorem v_staysCells : Valid Try.prog n_staysCells c_staysCells := by
  refine valid_fn mixed hf_staysCells (by kernel_rfl) rfl (ts := tmpsOf f_staysCells.results.toList) (by kernel_rfl) (cfg := cfgW g_staysCells) tt_ok Γok_nil staysCells_tm c_staysCells (by kernel_rfl) (fun x r u h => by obtain ⟨_, h2⟩ := grd_some h; cases h2; exact ⟨rfl, ⟨⟩⟩) ?_
  rintro ⟨⟨(ys : List ((Int × Int) × Int)), (n : Nat)⟩, (l : List ((Int × Int) × Int)), ⟨⟩⟩ r u h
  obtain ⟨h1, h2⟩ := grd_some h
  simp only at h1 h2
  refine ⟨l.length + 4, (staysCells_rn _ (ys, n) l).trans (Eq.trans ?_ (congrArg some h2))⟩
  simp only [staysS, Bool.and_eq_true, decide_eq_true_eq] at h1
  obtain ⟨⟨rfl, rfl⟩, hl⟩ := h1
  have e3 : IntKind.i64.wrap ((↑(List.length l) : Int) + (3 : Int)) = (l.length : Int) + 3 := wrapI (by omega) (by omega)
  have e4 : ((l.length : Int) + 3).toNat = l.length + 3 := by omega
  unfold staysCells_P
  rw [br_f (by simp), e3, e4, br_dt (by omega), br_dt (by simp)]
  exact stays_loop (((0 : Int), (0 : Int)), (0 : Int)) (((0 : Int), (0 : Int)), (7 : Int)) (fun a b => ((a.1.1 == b.1.1 && a.1.2 == b.1.2) && a.2 == b.2)) (by simp) l hl (fun _ _ _ _ => rfl) _ (by omega)
theorem v_sameCells : Valid Try.prog n_sameCells c_sameCells := by
  refine valid_fn mixed hf_sameCells (by kernel_rfl) rfl (ts := tmpsOf f_sameCells.results.toList) (by kernel_rfl) (cfg := cfgW g_sameCells) tt_ok Γok_nil sameCells_tm c_sameCells (by kernel_rfl) (fun _ _ _ _ => ⟨⟩) ?_
  rintro ⟨(a : List ((Int × Int) × Int)), (b : List ((Int × Int) × Int)), ⟨⟩⟩ r u h
  obtain ⟨h1, h2⟩ := grd_some h
  simp only at h1 h2
  refine ⟨a.length + 1, (sameCells_rn _ a b).trans (Eq.trans ?_ (congrArg some h2))⟩
  have hl := of_decide_eq_true h1
  unfold sameCells_P
  by_cases hab : a.length = b.length
  · rw [br_f (by simp [hab])]
    exact same_loop (((0 : Int), (0 : Int)), (0 : Int)) (fun a b => ((a.1.1 == b.1.1 && a.1.2 == b.1.2) && a.2 == b.2)) (by rintro ⟨⟨a1, a2⟩, a3⟩ ⟨⟨b1, b2⟩, b3⟩; by_cases h : a1 = b1 <;> by_cases h2 : a2 = b2 <;> by_cases h3 : a3 = b3 <;> simp [h, h2, h3]) a b hab (fun _ _ _ _ => rfl) (by omega) _ (by omega)
  · rw [br_t (by simp; omega)]
    have : sameS a b = false := by
      unfold sameS
      apply decide_eq_false
      rintro rfl
      exact hab rfl
    rw [this]
    rfl
theorem v_cloneCells : Valid Try.prog n_cloneCells c_cloneCells := by
  refine valid_fn mixed hf_cloneCells (by kernel_rfl) rfl (ts := tmpsOf f_cloneCells.results.toList) (by kernel_rfl) (cfg := cfgW g_cloneCells) tt_ok Γok_nil cloneCells_tm c_cloneCells (by kernel_rfl) (fun _ _ _ _ => ⟨⟩) ?_
  rintro ⟨(l : List ((Int × Int) × Int)), ⟨⟩⟩ r u h
  obtain ⟨h1, h2⟩ := grd_some h
  simp only at h1 h2
  refine ⟨0, (cloneCells_rn _ l).trans (Eq.trans ?_ (congrArg some h2))⟩
  have hl := of_decide_eq_true h1
  unfold cloneCells_P
  rw [br_dt (lim_mul (by omega) (by decide)), br_dt (lim_le (by omega))]
  refine mayB_of fun he => ?_
  cases l with
  | nil => rfl
  | cons a l => cases he
end Go.BB
