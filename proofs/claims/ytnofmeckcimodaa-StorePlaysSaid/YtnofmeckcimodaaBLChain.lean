/- A symbolic machine for the model's code, and what it shows of this seat's functions. No conditions. -/
import Derived.Test.YtnofmeckcimodaaBLem
import Derived.Test.YtnofmeckcimodaaBSStore
set_option linter.unusedSimpArgs false
set_option linter.unusedVariables false
namespace Go.BB
open Go Go.Proofs
set_option maxRecDepth 100000
theorem lim_mul {n b : Nat} (h : n < 2000000) (hb : b ≤ 1000) : n * b ≤ LIM := Nat.le_trans (Nat.mul_le_mul (Nat.le_of_lt h) hb) (by decide)
theorem lim_le {n : Nat} (h : n < 2000000) : n ≤ LIM := Nat.le_trans (Nat.le_of_lt h) (by decide)
theorem emod_tmod (k n : Int) (h1 : 0 < n) : (k.tmod n < 0 ∧ k.tmod n + n = k % n) ∨ (¬ k.tmod n < 0 ∧ k.tmod n = k % n) := by
  have hm := Int.emod_nonneg k (show n ≠ 0 by omega)
  have hm2 := Int.emod_lt_of_pos k h1
  have hl : -n < k.tmod n ∧ k.tmod n < n := ⟨Int.lt_tmod_of_pos k h1, Int.tmod_lt_of_pos k h1⟩
  have he : k.tmod n = k % n ∨ k.tmod n = k % n - n := by
    rw [Int.tmod_eq_emod]
    split
    · left; omega
    · right
      have : (n.natAbs : Int) = n := by omega
      omega
  omega
theorem v_within : Valid Try.prog n_within c_within := by
  refine valid_fn mixed hf_within (by kernel_rfl) rfl (ts := tmpsOf f_within.results.toList) (by kernel_rfl) (cfg := cfgW g_within) tt_ok Γok_nil within_tm c_within (by kernel_rfl) (fun _ _ _ _ => ⟨⟩) ?_
  rintro ⟨(k : Int), (n : Int), ⟨⟩⟩ r u h
  obtain ⟨h1, h2⟩ := grd_some h
  simp only at h1 h2
  refine ⟨0, (within_rn _ _ _).trans (Eq.trans ?_ (congrArg some h2))⟩
  simp only [Bool.and_eq_true, decide_eq_true_eq] at h1
  have hm := Int.emod_nonneg k (show n ≠ 0 by omega)
  have hm2 := Int.emod_lt_of_pos k h1.1
  unfold within_P
  rw [br_t (by simp [show ¬ n = 0 by omega])]
  rcases emod_tmod k n h1.1 with ⟨h3, h4⟩ | ⟨h3, h4⟩
  · rw [br_dt h3, h4, wrapI (by omega) (by omega)]
    rfl
  · rw [br_df h3, h4]
    rfl
theorem v_digit : Valid Try.prog n_digit c_digit := by
  refine valid_fn mixed hf_digit (by kernel_rfl) rfl (ts := tmpsOf f_digit.results.toList) (by kernel_rfl) (cfg := cfgW g_digit) tt_ok (Γok_cons v_within Γok_nil) digit_tm c_digit (by kernel_rfl) (fun _ _ _ _ => ⟨⟩) ?_
  rintro ⟨(k : Int), (d : Int), (n : Int), ⟨⟩⟩ r u h
  obtain ⟨h1, h2⟩ := grd_some h
  simp only at h1 h2
  refine ⟨0, (digit_rn _ _ _ _).trans (Eq.trans ?_ (congrArg some h2))⟩
  simp only [Bool.and_eq_true, decide_eq_true_eq] at h1
  unfold digit_P
  rw [br_t (by simp [show ¬ d = 0 by omega]), bd_grd (by simp [h1.2.1, h1.2.2])]
  rfl
theorem v_ati : Valid Try.prog n_ati c_ati := by
  refine valid_fn mixed hf_ati (by kernel_rfl) rfl (ts := tmpsOf f_ati.results.toList) (by kernel_rfl) (cfg := cfgW g_ati) tt_ok Γok_nil ati_tm c_ati (by kernel_rfl) (fun _ _ _ _ => ⟨⟩) ?_
  rintro ⟨(ks : List Int), (i : Int), ⟨⟩⟩ r u h
  refine ⟨0, (ati_rn _ _ _).trans (Eq.trans ?_ h)⟩
  unfold ati_P
  show _ = some ((atS ks i, ()), ((), (), ()))
  unfold atS
  by_cases h1 : i < 0
  · rw [br_dt h1, if_neg (by omega)]
  · rw [br_df h1, if_pos (by omega)]
    by_cases h2 : i ≥ (ks.length : Int)
    · rw [br_dt h2, List.getD_eq_getElem?_getD, List.getElem?_eq_none (by omega)]; rfl
    · rw [br_df h2, br_dt (by omega), br_dt (by omega)]
theorem v_cloneBits : Valid Try.prog n_cloneBits c_cloneBits := by
  refine valid_fn mixed hf_cloneBits (by kernel_rfl) rfl (ts := tmpsOf f_cloneBits.results.toList) (by kernel_rfl) (cfg := cfgW g_cloneBits) tt_ok Γok_nil cloneBits_tm c_cloneBits (by kernel_rfl) (fun _ _ _ _ => ⟨⟩) ?_
  rintro ⟨(l : List Bool), ⟨⟩⟩ r u h
  obtain ⟨h1, h2⟩ := grd_some h
  simp only at h1 h2
  refine ⟨0, (cloneBits_rn _ l).trans (Eq.trans ?_ (congrArg some h2))⟩
  have hl := of_decide_eq_true h1
  unfold cloneBits_P
  rw [br_dt (lim_mul (by omega) (by decide)), br_dt (lim_le (by omega))]
  refine mayB_of fun he => ?_
  cases l with
  | nil => rfl
  | cons a l => cases he
theorem v_cloneWords : Valid Try.prog n_cloneWords c_cloneWords := by
  refine valid_fn mixed hf_cloneWords (by kernel_rfl) rfl (ts := tmpsOf f_cloneWords.results.toList) (by kernel_rfl) (cfg := cfgW g_cloneWords) tt_ok Γok_nil cloneWords_tm c_cloneWords (by kernel_rfl) (fun _ _ _ _ => ⟨⟩) ?_
  rintro ⟨(l : List Int), ⟨⟩⟩ r u h
  obtain ⟨h1, h2⟩ := grd_some h
  simp only at h1 h2
  refine ⟨0, (cloneWords_rn _ l).trans (Eq.trans ?_ (congrArg some h2))⟩
  have hl := of_decide_eq_true h1
  unfold cloneWords_P
  rw [br_dt (lim_mul (by omega) (by decide)), br_dt (lim_le (by omega))]
  refine mayB_of fun he => ?_
  cases l with
  | nil => rfl
  | cons a l => cases he
theorem v_lentCells : Valid Try.prog n_lentCells c_lentCells := by
  refine valid_fn mixed hf_lentCells (by kernel_rfl) rfl (ts := tmpsOf f_lentCells.results.toList) (by kernel_rfl) (cfg := cfgW g_lentCells) tt_ok Γok_nil lentCells_tm c_lentCells (by kernel_rfl) (fun _ _ _ _ => ⟨⟩) ?_
  rintro ⟨(l : List ((Int × Int) × Int)), ⟨⟩⟩ r u h
  obtain ⟨h1, h2⟩ := grd_some h
  simp only at h1 h2
  refine ⟨4, (lentCells_rn _ l).trans (Eq.trans ?_ (congrArg some h2))⟩
  have hl := of_decide_eq_true h1
  have e3 : IntKind.i64.wrap ((↑(List.length l) : Int) + (3 : Int)) = (l.length : Int) + 3 := wrapI (by omega) (by omega)
  have e4 : ((l.length : Int) + 3).toNat = l.length + 3 := by omega
  unfold lentCells_P
  rw [e3, e4, br_dt (by omega), br_dt (by omega), br_dt (lim_mul (by omega) (by decide)), br_dt (lim_le (by omega))]
  exact lent_loop (((0 : Int), (0 : Int)), (0 : Int)) (((0 : Int), (0 : Int)), (7 : Int)) l hl (fun _ _ _ _ => rfl)
theorem v_staysCells : Valid Try.prog n_staysCells c_staysCells := by
  refine valid_fn mixed hf_staysCells (by kernel_rfl) rfl (ts := tmpsOf f_staysCells.results.toList) (by kernel_rfl) (cfg := cfgW g_staysCells) tt_ok Γok_nil staysCells_tm c_staysCells (by kernel_rfl) (fun x r u h => by obtain ⟨_, h2⟩ := grd_some h; cases h2; exact ⟨rfl, ⟨⟩⟩) ?_
  rintro ⟨⟨(ys : List ((Int × Int) × Int)), (n : Nat)⟩, (l : List ((Int × Int) × Int)), ⟨⟩⟩ r u h
  obtain ⟨h1, h2⟩ := grd_some h
  simp only at h1 h2
  refine ⟨l.length + 4, (staysCells_rn _ (ys, n) l).trans (Eq.trans ?_ (congrArg some h2))⟩
  simp only [staysS, Bool.and_eq_true, decide_eq_true_eq] at h1
  obtain ⟨⟨rfl, rfl⟩, hl⟩ := h1
  have e3 : IntKind.i64.wrap ((↑(List.length l) : Int) + (3 : Int)) = (l.length : Int) + 3 := wrapI (by omega) (by omega)
  have e4 : ((l.length : Int) + 3).toNat = l.length + 3 := by omega
  unfold staysCells_P
  rw [br_f (by simp), e3, e4, br_dt (by omega), br_dt (by simp)]
  exact stays_loop (((0 : Int), (0 : Int)), (0 : Int)) (((0 : Int), (0 : Int)), (7 : Int)) (fun a b => ((a.1.1 == b.1.1 && a.1.2 == b.1.2) && a.2 == b.2)) (by simp) l hl (fun _ _ _ _ => rfl) _ (by omega)
theorem v_sameCells : Valid Try.prog n_sameCells c_sameCells := by
  refine valid_fn mixed hf_sameCells (by kernel_rfl) rfl (ts := tmpsOf f_sameCells.results.toList) (by kernel_rfl) (cfg := cfgW g_sameCells) tt_ok Γok_nil sameCells_tm c_sameCells (by kernel_rfl) (fun _ _ _ _ => ⟨⟩) ?_
  rintro ⟨(a : List ((Int × Int) × Int)), (b : List ((Int × Int) × Int)), ⟨⟩⟩ r u h
  obtain ⟨h1, h2⟩ := grd_some h
  simp only at h1 h2
  refine ⟨a.length + 1, (sameCells_rn _ a b).trans (Eq.trans ?_ (congrArg some h2))⟩
  have hl := of_decide_eq_true h1
  unfold sameCells_P
  by_cases hab : a.length = b.length
  · rw [br_f (by simp [hab])]
    exact same_loop (((0 : Int), (0 : Int)), (0 : Int)) (fun a b => ((a.1.1 == b.1.1 && a.1.2 == b.1.2) && a.2 == b.2)) (by rintro ⟨⟨a1, a2⟩, a3⟩ ⟨⟨b1, b2⟩, b3⟩; by_cases h : a1 = b1 <;> by_cases h2 : a2 = b2 <;> by_cases h3 : a3 = b3 <;> simp [h, h2, h3]) a b hab (fun _ _ _ _ => rfl) (by omega) _ (by omega)
  · rw [br_t (by simp; omega)]
    have : sameS a b = false := by
      unfold sameS
      apply decide_eq_false
      rintro rfl
      exact hab rfl
    rw [this]
    rfl
theorem v_cloneCells : Valid Try.prog n_cloneCells c_cloneCells := by
  refine valid_fn mixed hf_cloneCells (by kernel_rfl) rfl (ts := tmpsOf f_cloneCells.results.toList) (by kernel_rfl) (cfg := cfgW g_cloneCells) tt_ok Γok_nil cloneCells_tm c_cloneCells (by kernel_rfl) (fun _ _ _ _ => ⟨⟩) ?_
  rintro ⟨(l : List ((Int × Int) × Int)), ⟨⟩⟩ r u h
  obtain ⟨h1, h2⟩ := grd_some h
  simp only at h1 h2
  refine ⟨0, (cloneCells_rn _ l).trans (Eq.trans ?_ (congrArg some h2))⟩
  have hl := of_decide_eq_true h1
  unfold cloneCells_P
  rw [br_dt (lim_mul (by omega) (by decide)), br_dt (lim_le (by omega))]
  refine mayB_of fun he => ?_
  cases l with
  | nil => rfl
  | cons a l => cases he
theorem v_cloneVersions : Valid Try.prog n_cloneVersions c_cloneVersions := by
  refine valid_fn mixed hf_cloneVersions (by kernel_rfl) rfl (ts := tmpsOf f_cloneVersions.results.toList) (by kernel_rfl) (cfg := cfgW g_cloneVersions) tt_ok Γok_nil cloneVersions_tm c_cloneVersions (by kernel_rfl) (fun _ _ _ _ => ⟨⟩) ?_
  rintro ⟨(l : List (Int × Int)), ⟨⟩⟩ r u h
  obtain ⟨h1, h2⟩ := grd_some h
  simp only at h1 h2
  refine ⟨0, (cloneVersions_rn _ l).trans (Eq.trans ?_ (congrArg some h2))⟩
  have hl := of_decide_eq_true h1
  unfold cloneVersions_P
  rw [br_dt (lim_mul (by omega) (by decide)), br_dt (lim_le (by omega))]
  refine mayB_of fun he => ?_
  cases l with
  | nil => rfl
  | cons a l => cases he
end Go.BB
set_option linter.unusedSimpArgs false
set_option linter.unusedVariables false
namespace Go.BB
open Go
theorem sh1 (x : Int) : x.fdiv ((2 : Int) ^ min (Int.toNat (1 : Int)) (64 : Nat)) = x / 2 := by
  rw [show ((2 : Int) ^ min (Int.toNat (1 : Int)) (64 : Nat)) = 2 by decide]
  exact Int.fdiv_eq_ediv_of_nonneg _ (by decide)
theorem maxI_eq (a b : Int) : maxI a b = max a b := by unfold maxI; omega
theorem minI_eq (a b : Int) : minI a b = min a b := by unfold minI; omega
theorem drop_cons {α : Type} (l : List α) (i : Nat) (z : α) (h : i < l.length) : l.drop i = l.getD i z :: l.drop (i + 1) := by
  rw [List.drop_eq_getElem_cons h, List.getD_eq_getElem?_getD, List.getElem?_eq_getElem h]; rfl
theorem take_snoc {α : Type} (l : List α) (i : Nat) (z : α) (h : i < l.length) : l.take (i + 1) = l.take i ++ [l.getD i z] := by
  rw [List.take_add_one, List.getD_eq_getElem?_getD, List.getElem?_eq_getElem h]; rfl
theorem rf_cons {a : Int} {v : Int × Int} {l : List (Int × Int)} : rightFrom a (v :: l) = true ↔ a < v.1 ∧ rightFrom v.1 l = true := by simp [rightFrom]
theorem rf_weaken : ∀ {l : List (Int × Int)} {a b : Int}, b ≤ a → rightFrom a l = true → rightFrom b l = true
  | [], _, _, _, _ => rfl
  | v :: l, a, b, h, hr => by rw [rf_cons] at hr ⊢; exact ⟨by omega, hr.2⟩
theorem rf_drop : ∀ {l : List (Int × Int)} {a : Int} (k : Nat), rightFrom a l = true → rightFrom a (l.drop k) = true
  | [], _, k, _ => by simp [rightFrom]
  | v :: l, a, 0, h => h
  | v :: l, a, k + 1, h => by
    rw [rf_cons] at h
    rw [List.drop_succ_cons]
    exact rf_weaken (by omega) (rf_drop k h.2)
theorem cnt_le : ∀ (l : List (Int × Int)) (q : Int), cnt l q ≤ l.length
  | [], _ => by simp [cnt]
  | v :: l, q => by
    have := cnt_le l q
    simp only [cnt, List.length_cons]
    split <;> omega
theorem cnt_lt : ∀ (l : List (Int × Int)) (q : Int) (i : Nat), i < cnt l q → (l.getD i (0, 0)).1 ≤ q
  | [], _, _, h => by simp [cnt] at h
  | v :: l, q, i, h => by
    simp only [cnt] at h
    split at h
    · cases i with
      | zero => simpa
      | succ i => simpa using cnt_lt l q i (by omega)
    · omega
theorem cnt_stop : ∀ (l : List (Int × Int)) (q : Int), cnt l q < l.length → ¬ (l.getD (cnt l q) (0, 0)).1 ≤ q
  | [], _, h => by simp [cnt] at h
  | v :: l, q, h => by
    simp only [cnt] at h ⊢
    split
    · rename_i hv
      rw [if_pos hv] at h
      simpa using cnt_stop l q (by simpa using h)
    · rename_i hv
      simpa using hv
theorem rf_ge : ∀ {l : List (Int × Int)} {a : Int}, rightFrom a l = true → ∀ i, i < l.length → a < (l.getD i (0, 0)).1
  | [], _, _, i, h => by simp at h
  | v :: l, a, hr, i, h => by
    rw [rf_cons] at hr
    cases i with
    | zero => simpa using hr.1
    | succ i =>
      have := rf_ge hr.2 i (by simpa using h)
      simp only [List.getD_cons_succ]
      omega
theorem cnt_iff : ∀ {l : List (Int × Int)} {a : Int}, rightFrom a l = true → ∀ (q : Int) (i : Nat), i < l.length → ((l.getD i (0, 0)).1 ≤ q ↔ i < cnt l q)
  | [], _, _, _, i, h => by simp at h
  | v :: l, a, hr, q, i, h => by
    rw [rf_cons] at hr
    simp only [cnt]
    cases i with
    | zero => split <;> simp <;> omega
    | succ i =>
      have ih := cnt_iff hr.2 q i (by simpa using h)
      have hg := rf_ge hr.2 i (by simpa using h)
      simp only [List.getD_cons_succ]
      split
      · rw [ih]; omega
      · omega
theorem cnt_mono : ∀ (l : List (Int × Int)) {p q : Int}, p ≤ q → cnt l p ≤ cnt l q
  | [], _, _, _ => by simp [cnt]
  | v :: l, p, q, h => by
    have := cnt_mono l h
    simp only [cnt]
    split <;> split <;> omega
theorem cnt_drop : ∀ (l : List (Int × Int)) (q : Int) (k : Nat), k ≤ cnt l q → cnt (l.drop k) q = cnt l q - k
  | l, q, 0, _ => by simp
  | [], q, k + 1, h => by simp [cnt] at h
  | v :: l, q, k + 1, h => by
    simp only [cnt] at h ⊢
    split at h
    · rename_i hv
      rw [if_pos hv, List.drop_succ_cons, cnt_drop l q k (by omega)]
      omega
    · omega
theorem atV_drop (l : List (Int × Int)) (q : Int) (k : Nat) (h : k < cnt l q ∨ k = 0) : atV (l.drop k) q = atV l q := by
  rcases h with h | rfl
  · unfold atV
    rw [cnt_drop l q k (by omega), if_neg (by omega), if_neg (by omega)]
    simp only [List.getD_eq_getElem?_getD, List.getElem?_drop]
    rw [show k + (cnt l q - k - 1) = cnt l q - 1 by omega]
  · simp
theorem cnt_snoc : ∀ (l : List (Int × Int)) (v : Int × Int) (q : Int), cnt (l ++ [v]) q = if cnt l q = l.length then (if v.1 ≤ q then l.length + 1 else l.length) else cnt l q
  | [], v, q => by simp [cnt]
  | u :: l, v, q => by
    have ih := cnt_snoc l v q
    have hle := cnt_le l q
    simp only [List.cons_append, cnt, List.length_cons, ih]
    by_cases hu : u.1 ≤ q
    · simp only [if_pos hu]
      by_cases hc : cnt l q = l.length
      · have hc' : cnt l q + 1 = l.length + 1 := by omega
        by_cases hv : v.1 ≤ q
        · simp only [if_pos hc, if_pos hc', if_pos hv]
        · simp only [if_pos hc, if_pos hc', if_neg hv]
      · have hc' : ¬ cnt l q + 1 = l.length + 1 := by omega
        simp only [if_neg hc, if_neg hc']
    · simp only [if_neg hu]
      rw [if_neg (by omega)]
theorem rf_snoc : ∀ {l : List (Int × Int)} {a : Int} {v : Int × Int}, rightFrom a l = true → a < v.1 → (∀ i, i < l.length → (l.getD i (0, 0)).1 < v.1) → rightFrom a (l ++ [v]) = true
  | [], a, v, _, h, _ => by simp [rightFrom, h]
  | u :: l, a, v, hr, h, hall => by
    rw [rf_cons] at hr
    rw [List.cons_append, rf_cons]
    refine ⟨hr.1, rf_snoc hr.2 (by simpa using hall 0 (by simp)) fun i hi => ?_⟩
    simpa using hall (i + 1) (by simpa using hi)
theorem rf_lt : ∀ {l : List (Int × Int)} {a : Int}, rightFrom a l = true → ∀ i j, i < j → j < l.length → (l.getD i (0, 0)).1 < (l.getD j (0, 0)).1
  | [], _, _, _, j, _, h => by simp at h
  | v :: l, a, hr, i, j, hij, h => by
    rw [rf_cons] at hr
    match i, j, hij with
    | 0, j + 1, _ => simpa using rf_ge hr.2 j (by simpa using h)
    | i + 1, j + 1, hij => simpa using rf_lt hr.2 i j (by omega) (by simpa using h)
theorem newS_last {l : List (Int × Int)} {a : Int} (hr : rightFrom a l = true) (h0 : 0 ≤ a) : ∀ i, i < l.length → (l.getD i (0, 0)).1 ≤ newS l := by
  intro i hi
  unfold newS
  rw [if_neg (by omega)]
  by_cases h : i = l.length - 1
  · subst h; exact Int.le_refl _
  · exact Int.le_of_lt (rf_lt hr i (l.length - 1) (by omega) (by omega))
theorem newS_nonneg {l : List (Int × Int)} (hr : rightFrom 0 l = true) : 0 ≤ newS l := by
  unfold newS
  split
  · exact Int.le_refl _
  · exact Int.le_of_lt (rf_ge hr _ (by omega))
theorem rf_add {l : List (Int × Int)} {v : Int × Int} (hr : rightFrom 0 l = true) (h : newS l < v.1) : rightFrom 0 (l ++ [v]) = true :=
  rf_snoc hr (by have := newS_nonneg hr; omega) fun i hi => by have := newS_last hr (Int.le_refl _) i hi; omega
theorem newS_snoc (l : List (Int × Int)) (v : Int × Int) : newS (l ++ [v]) = v.1 := by
  unfold newS
  simp
theorem newS_drop (l : List (Int × Int)) (k : Nat) (h : k < l.length ∨ k = 0) : newS (l.drop k) = newS l := by
  rcases h with h | rfl
  · unfold newS
    rw [List.length_drop, if_neg (by omega), if_neg (by omega)]
    simp only [List.getD_eq_getElem?_getD, List.getElem?_drop]
    rw [show k + (l.length - k - 1) = l.length - 1 by omega]
  · simp
theorem atV_snoc {l : List (Int × Int)} {v : Int × Int} (hr : rightFrom 0 l = true) (h : newS l < v.1) (q : Int) : atV (l ++ [v]) q = if v.1 ≤ q then v.2 else atV l q := by
  have hall : v.1 ≤ q → cnt l q = l.length := fun hv => by
    have hle := cnt_le l q
    apply Classical.byContradiction
    intro hne
    have := cnt_stop l q (by omega)
    have := newS_last hr (Int.le_refl _) (cnt l q) (by omega)
    omega
  unfold atV
  rw [cnt_snoc]
  by_cases hv : v.1 ≤ q
  · rw [if_pos (hall hv), if_pos hv, if_pos hv, if_neg (by omega)]
    simp
  · rw [if_neg hv, if_neg hv]
    have e : (if cnt l q = l.length then l.length else cnt l q) = cnt l q := by split <;> omega
    rw [e]
    by_cases h0 : cnt l q = 0
    · rw [if_pos h0, if_pos h0]
    · rw [if_neg h0, if_neg h0, getD_app_lt _ _ _ _ (by have := cnt_le l q; omega)]
theorem rf_trim {l : List (Int × Int)} (hr : rightFrom 0 l = true) (m : Int) : rightFrom 0 (trimS l m) = true := rf_drop _ hr
theorem newS_trim (l : List (Int × Int)) (m : Int) : newS (trimS l m) = newS l := newS_drop l _ (by have := cnt_le l m; omega)
theorem atV_trim (l : List (Int × Int)) {m q : Int} (h : m ≤ q) : atV (trimS l m) q = atV l q := atV_drop l q _ (by have := cnt_mono l h; omega)
theorem trim_trim (l : List (Int × Int)) {m q : Int} (h : q ≤ m) : trimS (trimS l m) q = trimS l m := by
  have h1 := cnt_mono (trimS l m) h
  have h2 : cnt (trimS l m) m ≤ 1 := by
    unfold trimS
    rw [cnt_drop l m _ (by omega)]
    omega
  have h3 : trimS (trimS l m) q = (trimS l m).drop (cnt (trimS l m) q - 1) := rfl
  rw [h3, show cnt (trimS l m) q - 1 = 0 by omega, List.drop_zero]
theorem trim_len (l : List (Int × Int)) (m : Int) : (trimS l m).length ≤ l.length := by simp [trimS]
theorem chainFrom_ok : ∀ (ks : List Int) (n : Int), 0 ≤ n → rightFrom n (chainFrom n ks) = true ∧ (∀ i, i < (chainFrom n ks).length → ((chainFrom n ks).getD i (0, 0)).1 ≤ n + 5 * ks.length) ∧ (chainFrom n ks).length = ks.length
  | [], n, _ => by simp [chainFrom, rightFrom]
  | k :: ks, n, hn => by
    have hk := Int.emod_nonneg k (show (5 : Int) ≠ 0 by decide)
    have hk2 := Int.emod_lt_of_pos k (show (0 : Int) < 5 by decide)
    obtain ⟨h1, h2, h3⟩ := chainFrom_ok ks (n + 1 + k % 5) (by omega)
    simp only [chainFrom, List.length_cons]
    refine ⟨rf_cons.2 ⟨by simp only; omega, h1⟩, fun i hi => ?_, by omega⟩
    cases i with
    | zero => simp; omega
    | succ i =>
      have := h2 i (by omega)
      simp only [List.getD_cons_succ]
      omega
theorem chainS_rf (ks : List Int) : rightFrom 0 (chainS ks) = true := (chainFrom_ok _ 0 (by omega)).1
theorem chainS_len (ks : List Int) : (chainS ks).length ≤ 20 := by
  unfold chainS
  rw [(chainFrom_ok _ 0 (by omega)).2.2]
  simp; omega
theorem chainS_le (ks : List Int) : ∀ i, i < (chainS ks).length → ((chainS ks).getD i (0, 0)).1 ≤ 100 := by
  intro i hi
  have := (chainFrom_ok (ks.take 20) 0 (by omega)).2.1 i hi
  have h2 : (ks.take 20).length ≤ 20 := by simp; omega
  show ((chainFrom 0 (ks.take 20)).getD i (0, 0)).1 ≤ 100
  omega
theorem newS_chain (ks : List Int) : 0 ≤ newS (chainS ks) ∧ newS (chainS ks) ≤ 100 := by
  refine ⟨newS_nonneg (chainS_rf ks), ?_⟩
  unfold newS
  split
  · decide
  · exact chainS_le ks _ (by omega)
theorem lenOk_of {α : Type} {l : List α} (h : l.length < 1000000) : lenOk l = true := by simp [lenOk, h]
theorem lenOk_lt {α : Type} {l : List α} (h : lenOk l = true) : l.length < 1000000 := by simpa [lenOk] using h
theorem isU_of {n : Int} (h : isU n = true) : 0 ≤ n ∧ n ≤ 18446744073709551615 := by simpa [isU] using h
theorem isU_mk {n : Int} (h1 : 0 ≤ n) (h2 : n ≤ 18446744073709551615) : isU n = true := by simp [isU, h1, h2]
theorem allU_get {l : List (Int × Int)} (h : allU l = true) (i : Nat) (hi : i < l.length) : 0 ≤ (l.getD i (0, 0)).1 := by
  have := List.all_eq_true.1 h l[i] (List.getElem_mem hi)
  rw [List.getD_eq_getElem?_getD, List.getElem?_eq_getElem hi]
  exact (isU_of this).1
theorem allU_of {l : List (Int × Int)} (h : ∀ i, i < l.length → 0 ≤ (l.getD i (0, 0)).1 ∧ (l.getD i (0, 0)).1 ≤ 18446744073709551615) : allU l = true := by
  refine List.all_eq_true.2 fun v hv => ?_
  obtain ⟨i, hi, rfl⟩ := List.getElem_of_mem hv
  have := h i hi
  rw [List.getD_eq_getElem?_getD, List.getElem?_eq_getElem hi] at this
  exact isU_mk this.1 this.2
theorem digitS_range (k d : Int) {n : Int} (h : 0 < n) : 0 ≤ digitS k d n ∧ digitS k d n < n := ⟨Int.emod_nonneg _ (by omega), Int.emod_lt_of_pos _ h⟩
end Go.BB
