/- A symbolic machine for the model's code, and what it shows of this seat's functions. No conditions. -/
import Derived.Test.YtnofmeckcimodaaCLem
set_option linter.unusedSimpArgs false
set_option linter.unusedVariables false
namespace Go.BB
open Go Go.Proofs
set_option maxRecDepth 100000
theorem lim_mul {n b : Nat} (h : n < 2000000) (hb : b ≤ 1000) : n * b ≤ LIM := Nat.le_trans (Nat.mul_le_mul (Nat.le_of_lt h) hb) (by decide)
theorem lim_le {n : Nat} (h : n < 2000000) : n ≤ LIM := Nat.le_trans (Nat.le_of_lt h) (by decide)
theorem emod_tmod (k n : Int) (h1 : 0 < n) : (k.tmod n < 0 ∧ k.tmod n + n = k % n) ∨ (¬ k.tmod n < 0 ∧ k.tmod n = k % n) := by
  have hm := Int.emod_nonneg k (show n ≠ 0 by omega)
  have hm2 := Int.emod_lt_of_pos k h1
  have hl : -n < k.tmod n ∧ k.tmod n < n := ⟨Int.lt_tmod_of_pos k h1, Int.tmod_lt_of_pos k h1⟩
  have he : k.tmod n = k % n ∨ k.tmod n = k % n - n := by
    rw [Int.tmod_eq_emod]
    split
    · left; omega
    · right
      have : (n.natAbs : Int) = n := by omega
      omega
  omega
theorem v_within : Valid Try.prog n_within c_within := by
  refine valid_fn mixed hf_within (by kernel_rfl) rfl (ts := tmpsOf f_within.results.toList) (by kernel_rfl) (cfg := cfgW g_within) tt_ok Γok_nil within_tm c_within (by kernel_rfl) (fun _ _ _ _ => ⟨⟩) ?_
  rintro ⟨(k : Int), (n : Int), ⟨⟩⟩ r u h
  obtain ⟨h1, h2⟩ := grd_some h
  simp only at h1 h2
  refine ⟨0, (within_rn _ _ _).trans (Eq.trans ?_ (congrArg some h2))⟩
  simp only [Bool.and_eq_true, decide_eq_true_eq] at h1
  have hm := Int.emod_nonneg k (show n ≠ 0 by omega)
  have hm2 := Int.emod_lt_of_pos k h1.1
  unfold within_P
  rw [br_t (by simp [show ¬ n = 0 by omega])]
  rcases emod_tmod k n h1.1 with ⟨h3, h4⟩ | ⟨h3, h4⟩
  · rw [br_dt h3, h4, wrapI (by omega) (by omega)]
    rfl
  · rw [br_df h3, h4]
    rfl
theorem v_digit : Valid Try.prog n_digit c_digit := by
  refine valid_fn mixed hf_digit (by kernel_rfl) rfl (ts := tmpsOf f_digit.results.toList) (by kernel_rfl) (cfg := cfgW g_digit) tt_ok (Γok_cons v_within Γok_nil) digit_tm c_digit (by kernel_rfl) (fun _ _ _ _ => ⟨⟩) ?_
  rintro ⟨(k : Int), (d : Int), (n : Int), ⟨⟩⟩ r u h
  obtain ⟨h1, h2⟩ := grd_some h
  simp only at h1 h2
  refine ⟨0, (digit_rn _ _ _ _).trans (Eq.trans ?_ (congrArg some h2))⟩
  simp only [Bool.and_eq_true, decide_eq_true_eq] at h1
  unfold digit_P
  rw [br_t (by simp [show ¬ d = 0 by omega]), bd_grd (by simp [h1.2.1, h1.2.2])]
  rfl
theorem v_ati : Valid Try.prog n_ati c_ati := by
  refine valid_fn mixed hf_ati (by kernel_rfl) rfl (ts := tmpsOf f_ati.results.toList) (by kernel_rfl) (cfg := cfgW g_ati) tt_ok Γok_nil ati_tm c_ati (by kernel_rfl) (fun _ _ _ _ => ⟨⟩) ?_
  rintro ⟨(ks : List Int), (i : Int), ⟨⟩⟩ r u h
  refine ⟨0, (ati_rn _ _ _).trans (Eq.trans ?_ h)⟩
  unfold ati_P
  show _ = some ((atS ks i, ()), ((), (), ()))
  unfold atS
  by_cases h1 : i < 0
  · rw [br_dt h1, if_neg (by omega)]
  · rw [br_df h1, if_pos (by omega)]
    by_cases h2 : i ≥ (ks.length : Int)
    · rw [br_dt h2, List.getD_eq_getElem?_getD, List.getElem?_eq_none (by omega)]; rfl
    · rw [br_df h2, br_dt (by omega), br_dt (by omega)]
theorem v_cloneBits : Valid Try.prog n_cloneBits c_cloneBits := by
  refine valid_fn mixed hf_cloneBits (by kernel_rfl) rfl (ts := tmpsOf f_cloneBits.results.toList) (by kernel_rfl) (cfg := cfgW g_cloneBits) tt_ok Γok_nil cloneBits_tm c_cloneBits (by kernel_rfl) (fun _ _ _ _ => ⟨⟩) ?_
  rintro ⟨(l : List Bool), ⟨⟩⟩ r u h
  obtain ⟨h1, h2⟩ := grd_some h
  simp only at h1 h2
  refine ⟨0, (cloneBits_rn _ l).trans (Eq.trans ?_ (congrArg some h2))⟩
  have hl := of_decide_eq_true h1
  unfold cloneBits_P
  rw [br_dt (lim_mul (by omega) (by decide)), br_dt (lim_le (by omega))]
  refine mayB_of fun he => ?_
  cases l with
  | nil => rfl
  | cons a l => cases he
theorem v_cloneWords : Valid Try.prog n_cloneWords c_cloneWords := by
  refine valid_fn mixed hf_cloneWords (by kernel_rfl) rfl (ts := tmpsOf f_cloneWords.results.toList) (by kernel_rfl) (cfg := cfgW g_cloneWords) tt_ok Γok_nil cloneWords_tm c_cloneWords (by kernel_rfl) (fun _ _ _ _ => ⟨⟩) ?_
  rintro ⟨(l : List Int), ⟨⟩⟩ r u h
  obtain ⟨h1, h2⟩ := grd_some h
  simp only at h1 h2
  refine ⟨0, (cloneWords_rn _ l).trans (Eq.trans ?_ (congrArg some h2))⟩
  have hl := of_decide_eq_true h1
  unfold cloneWords_P
  rw [br_dt (lim_mul (by omega) (by decide)), br_dt (lim_le (by omega))]
  refine mayB_of fun he => ?_
  cases l with
  | nil => rfl
  | cons a l => cases he
theorem v_lentCells : Valid Try.prog n_lentCells c_lentCells := by
  refine valid_fn mixed hf_lentCells (by kernel_rfl) rfl (ts := tmpsOf f_lentCells.results.toList) (by kernel_rfl) (cfg := cfgW g_lentCells) tt_ok Γok_nil lentCells_tm c_lentCells (by kernel_rfl) (fun _ _ _ _ => ⟨⟩) ?_
  rintro ⟨(l : List ((Int × Int) × Int)), ⟨⟩⟩ r u h
  obtain ⟨h1, h2⟩ := grd_some h
  simp only at h1 h2
  refine ⟨4, (lentCells_rn _ l).trans (Eq.trans ?_ (congrArg some h2))⟩
  have hl := of_decide_eq_true h1
  have e3 : IntKind.i64.wrap ((↑(List.length l) : Int) + (3 : Int)) = (l.length : Int) + 3 := wrapI (by omega) (by omega)
  have e4 : ((l.length : Int) + 3).toNat = l.length + 3 := by omega
  unfold lentCells_P
  rw [e3, e4, br_dt (by omega), br_dt (by omega), br_dt (lim_mul (by omega) (by decide)), br_dt (lim_le (by omega))]
  exact lent_loop (((0 : Int), (0 : Int)), (0 : Int)) (((0 : Int), (0 : Int)), (7 : Int)) l hl (fun _ _ _ _ => rfl)
theorem v_staysCells : Valid Try.prog n_staysCells c_staysCells := by
  refine valid_fn mixed hf_staysCells (by kernel_rfl) rfl (ts := tmpsOf f_staysCells.results.toList) (by kernel_rfl) (cfg := cfgW g_staysCells) tt_ok Γok_nil staysCells_tm c_staysCells (by kernel_rfl) (fun x r u h => by obtain ⟨_, h2⟩ := grd_some h; cases h2; exact ⟨rfl, ⟨⟩⟩) ?_
  rintro ⟨⟨(ys : List ((Int × Int) × Int)), (n : Nat)⟩, (l : List ((Int × Int) × Int)), ⟨⟩⟩ r u h
  obtain ⟨h1, h2⟩ := grd_some h
  simp only at h1 h2
  refine ⟨l.length + 4, (staysCells_rn _ (ys, n) l).trans (Eq.trans ?_ (congrArg some h2))⟩
  simp only [staysS, Bool.and_eq_true, decide_eq_true_eq] at h1
  obtain ⟨⟨rfl, rfl⟩, hl⟩ := h1
  have e3 : IntKind.i64.wrap ((↑(List.length l) : Int) + (3 : Int)) = (l.length : Int) + 3 := wrapI (by omega) (by omega)
  have e4 : ((l.length : Int) + 3).toNat = l.length + 3 := by omega
  unfold staysCells_P
  rw [br_f (by simp), e3, e4, br_dt (by omega), br_dt (by simp)]
  exact stays_loop (((0 : Int), (0 : Int)), (0 : Int)) (((0 : Int), (0 : Int)), (7 : Int)) (fun a b => ((a.1.1 == b.1.1 && a.1.2 == b.1.2) && a.2 == b.2)) (by simp) l hl (fun _ _ _ _ => rfl) _ (by omega)
theorem v_sameCells : Valid Try.prog n_sameCells c_sameCells := by
  refine valid_fn mixed hf_sameCells (by kernel_rfl) rfl (ts := tmpsOf f_sameCells.results.toList) (by kernel_rfl) (cfg := cfgW g_sameCells) tt_ok Γok_nil sameCells_tm c_sameCells (by kernel_rfl) (fun _ _ _ _ => ⟨⟩) ?_
  rintro ⟨(a : List ((Int × Int) × Int)), (b : List ((Int × Int) × Int)), ⟨⟩⟩ r u h
  obtain ⟨h1, h2⟩ := grd_some h
  simp only at h1 h2
  refine ⟨a.length + 1, (sameCells_rn _ a b).trans (Eq.trans ?_ (congrArg some h2))⟩
  have hl := of_decide_eq_true h1
  unfold sameCells_P
  by_cases hab : a.length = b.length
  · rw [br_f (by simp [hab])]
    exact same_loop (((0 : Int), (0 : Int)), (0 : Int)) (fun a b => ((a.1.1 == b.1.1 && a.1.2 == b.1.2) && a.2 == b.2)) (by rintro ⟨⟨a1, a2⟩, a3⟩ ⟨⟨b1, b2⟩, b3⟩; by_cases h : a1 = b1 <;> by_cases h2 : a2 = b2 <;> by_cases h3 : a3 = b3 <;> simp [h, h2, h3]) a b hab (fun _ _ _ _ => rfl) (by omega) _ (by omega)
  · rw [br_t (by simp; omega)]
    have : sameS a b = false := by
      unfold sameS
      apply decide_eq_false
      rintro rfl
      exact hab rfl
    rw [this]
    rfl
theorem v_cloneCells : Valid Try.prog n_cloneCells c_cloneCells := by
  refine valid_fn mixed hf_cloneCells (by kernel_rfl) rfl (ts := tmpsOf f_cloneCells.results.toList) (by kernel_rfl) (cfg := cfgW g_cloneCells) tt_ok Γok_nil cloneCells_tm c_cloneCells (by kernel_rfl) (fun _ _ _ _ => ⟨⟩) ?_
  rintro ⟨(l : List ((Int × Int) × Int)), ⟨⟩⟩ r u h
  obtain ⟨h1, h2⟩ := grd_some h
  simp only at h1 h2
  refine ⟨0, (cloneCells_rn _ l).trans (Eq.trans ?_ (congrArg some h2))⟩
  have hl := of_decide_eq_true h1
  unfold cloneCells_P
  rw [br_dt (lim_mul (by omega) (by decide)), br_dt (lim_le (by omega))]
  refine mayB_of fun he => ?_
  cases l with
  | nil => rfl
  | cons a l => cases he
theorem v_cloneVersions : Valid Try.prog n_cloneVersions c_cloneVersions := by
  refine valid_fn mixed hf_cloneVersions (by kernel_rfl) rfl (ts := tmpsOf f_cloneVersions.results.toList) (by kernel_rfl) (cfg := cfgW g_cloneVersions) tt_ok Γok_nil cloneVersions_tm c_cloneVersions (by kernel_rfl) (fun _ _ _ _ => ⟨⟩) ?_
  rintro ⟨(l : List (Int × Int)), ⟨⟩⟩ r u h
  obtain ⟨h1, h2⟩ := grd_some h
  simp only at h1 h2
  refine ⟨0, (cloneVersions_rn _ l).trans (Eq.trans ?_ (congrArg some h2))⟩
  have hl := of_decide_eq_true h1
  unfold cloneVersions_P
  rw [br_dt (lim_mul (by omega) (by decide)), br_dt (lim_le (by omega))]
  refine mayB_of fun he => ?_
  cases l with
  | nil => rfl
  | cons a l => cases he
end Go.BB
