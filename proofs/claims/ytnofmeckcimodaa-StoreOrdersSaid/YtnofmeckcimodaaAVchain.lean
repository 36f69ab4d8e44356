/- A symbolic machine for the model's code, and what it shows of this seat's functions. No conditions. -/
import Derived.Test.YtnofmeckcimodaaASStore
import Derived.Test.YtnofmeckcimodaaALem
import Derived.Test.YtnofmeckcimodaaAGchain
set_option linter.unusedSimpArgs false
set_option linter.unusedVariables false
namespace Go.BB
open Go
theorem sh1 (x : Int) : x.fdiv ((2 : Int) ^ min (Int.toNat (1 : Int)) (64 : Nat)) = x / 2 := by
  rw [show ((2 : Int) ^ min (Int.toNat (1 : Int)) (64 : Nat)) = 2 by decide]
  exact Int.fdiv_eq_ediv_of_nonneg _ (by decide)
theorem maxI_eq (a b : Int) : maxI a b = max a b := by unfold maxI; omega
theorem minI_eq (a b : Int) : minI a b = min a b := by unfold minI; omega
theorem drop_cons {α : Type} (l : List α) (i : Nat) (z : α) (h : i < l.length) : l.drop i = l.getD i z :: l.drop (i + 1) := by
  rw [List.drop_eq_getElem_cons h, List.getD_eq_getElem?_getD, List.getElem?_eq_getElem h]; rfl
theorem take_snoc {α : Type} (l : List α) (i : Nat) (z : α) (h : i < l.length) : l.take (i + 1) = l.take i ++ [l.getD i z] := by
  rw [List.take_add_one, List.getD_eq_getElem?_getD, List.getElem?_eq_getElem h]; rfl
theorem rf_cons {a : Int} {v : Int × Int} {l : List (Int × Int)} : rightFrom a (v :: l) = true ↔ a < v.1 ∧ rightFrom v.1 l = true := by simp [rightFrom]
theorem rf_weaken : ∀ {l : List (Int × Int)} {a b : Int}, b ≤ a → rightFrom a l = true → rightFrom b l = true
  | [], _, _, _, _ => rfl
  | v :: l, a, b, h, hr => by rw [rf_cons] at hr ⊢; exact ⟨by omega, hr.2⟩
theorem rf_drop : ∀ {l : List (Int × Int)} {a : Int} (k : Nat), rightFrom a l = true → rightFrom a (l.drop k) = true
  | [], _, k, _ => by simp [rightFrom]
  | v :: l, a, 0, h => h
  | v :: l, a, k + 1, h => by
    rw [rf_cons] at h
    rw [List.drop_succ_cons]
    exact rf_weaken (by omega) (rf_drop k h.2)
theorem cnt_le : ∀ (l : List (Int × Int)) (q : Int), cnt l q ≤ l.length
  | [], _ => by simp [cnt]
  | v :: l, q => by
    have := cnt_le l q
    simp only [cnt, List.length_cons]
    split <;> omega
theorem cnt_lt : ∀ (l : List (Int × Int)) (q : Int) (i : Nat), i < cnt l q → (l.getD i (0, 0)).1 ≤ q
  | [], _, _, h => by simp [cnt] at h
  | v :: l, q, i, h => by
    simp only [cnt] at h
    split at h
    · cases i with
      | zero => simpa
      | succ i => simpa using cnt_lt l q i (by omega)
    · omega
theorem cnt_stop : ∀ (l : List (Int × Int)) (q : Int), cnt l q < l.length → ¬ (l.getD (cnt l q) (0, 0)).1 ≤ q
  | [], _, h => by simp [cnt] at h
  | v :: l, q, h => by
    simp only [cnt] at h ⊢
    split
    · rename_i hv
      rw [if_pos hv] at h
      simpa using cnt_stop l q (by simpa using h)
    · rename_i hv
      simpa using hv
theorem rf_ge : ∀ {l : List (Int × Int)} {a : Int}, rightFrom a l = true → ∀ i, i < l.length → a < (l.getD i (0, 0)).1
  | [], _, _, i, h => by simp at h
  | v :: l, a, hr, i, h => by
    rw [rf_cons] at hr
    cases i with
    | zero => simpa using hr.1
    | succ i =>
      have := rf_ge hr.2 i (by simpa using h)
      simp only [List.getD_cons_succ]
      omega
theorem cnt_iff : ∀ {l : List (Int × Int)} {a : Int}, rightFrom a l = true → ∀ (q : Int) (i : Nat), i < l.length → ((l.getD i (0, 0)).1 ≤ q ↔ i < cnt l q)
  | [], _, _, _, i, h => by simp at h
  | v :: l, a, hr, q, i, h => by
    rw [rf_cons] at hr
    simp only [cnt]
    cases i with
    | zero => split <;> simp <;> omega
    | succ i =>
      have ih := cnt_iff hr.2 q i (by simpa using h)
      have hg := rf_ge hr.2 i (by simpa using h)
      simp only [List.getD_cons_succ]
      split
      · rw [ih]; omega
      · omega
theorem cnt_mono : ∀ (l : List (Int × Int)) {p q : Int}, p ≤ q → cnt l p ≤ cnt l q
  | [], _, _, _ => by simp [cnt]
  | v :: l, p, q, h => by
    have := cnt_mono l h
    simp only [cnt]
    split <;> split <;> omega
theorem cnt_drop : ∀ (l : List (Int × Int)) (q : Int) (k : Nat), k ≤ cnt l q → cnt (l.drop k) q = cnt l q - k
  | l, q, 0, _ => by simp
  | [], q, k + 1, h => by simp [cnt] at h
  | v :: l, q, k + 1, h => by
    simp only [cnt] at h ⊢
    split at h
    · rename_i hv
      rw [if_pos hv, List.drop_succ_cons, cnt_drop l q k (by omega)]
      omega
    · omega
theorem atV_drop (l : List (Int × Int)) (q : Int) (k : Nat) (h : k < cnt l q ∨ k = 0) : atV (l.drop k) q = atV l q := by
  rcases h with h | rfl
  · unfold atV
    rw [cnt_drop l q k (by omega), if_neg (by omega), if_neg (by omega)]
    simp only [List.getD_eq_getElem?_getD, List.getElem?_drop]
    rw [show k + (cnt l q - k - 1) = cnt l q - 1 by omega]
  · simp
theorem cnt_snoc : ∀ (l : List (Int × Int)) (v : Int × Int) (q : Int), cnt (l ++ [v]) q = if cnt l q = l.length then (if v.1 ≤ q then l.length + 1 else l.length) else cnt l q
  | [], v, q => by simp [cnt]
  | u :: l, v, q => by
    have ih := cnt_snoc l v q
    have hle := cnt_le l q
    simp only [List.cons_append, cnt, List.length_cons, ih]
    by_cases hu : u.1 ≤ q
    · simp only [if_pos hu]
      by_cases hc : cnt l q = l.length
      · have hc' : cnt l q + 1 = l.length + 1 := by omega
        by_cases hv : v.1 ≤ q
        · simp only [if_pos hc, if_pos hc', if_pos hv]
        · simp only [if_pos hc, if_pos hc', if_neg hv]
      · have hc' : ¬ cnt l q + 1 = l.length + 1 := by omega
        simp only [if_neg hc, if_neg hc']
    · simp only [if_neg hu]
      rw [if_neg (by omega)]
theorem rf_snoc : ∀ {l : List (Int × Int)} {a : Int} {v : Int × Int}, rightFrom a l = true → a < v.1 → (∀ i, i < l.length → (l.getD i (0, 0)).1 < v.1) → rightFrom a (l ++ [v]) = true
  | [], a, v, _, h, _ => by simp [rightFrom, h]
  | u :: l, a, v, hr, h, hall => by
    rw [rf_cons] at hr
    rw [List.cons_append, rf_cons]
    refine ⟨hr.1, rf_snoc hr.2 (by simpa using hall 0 (by simp)) fun i hi => ?_⟩
    simpa using hall (i + 1) (by simpa using hi)
theorem rf_lt : ∀ {l : List (Int × Int)} {a : Int}, rightFrom a l = true → ∀ i j, i < j → j < l.length → (l.getD i (0, 0)).1 < (l.getD j (0, 0)).1
  | [], _, _, _, j, _, h => by simp at h
  | v :: l, a, hr, i, j, hij, h => by
    rw [rf_cons] at hr
    match i, j, hij with
    | 0, j + 1, _ => simpa using rf_ge hr.2 j (by simpa using h)
    | i + 1, j + 1, hij => simpa using rf_lt hr.2 i j (by omega) (by simpa using h)
theorem newS_last {l : List (Int × Int)} {a : Int} (hr : rightFrom a l = true) (h0 : 0 ≤ a) : ∀ i, i < l.length → (l.getD i (0, 0)).1 ≤ newS l := by
  intro i hi
  unfold newS
  rw [if_neg (by omega)]
  by_cases h : i = l.length - 1
  · subst h; exact Int.le_refl _
  · exact Int.le_of_lt (rf_lt hr i (l.length - 1) (by omega) (by omega))
theorem newS_nonneg {l : List (Int × Int)} (hr : rightFrom 0 l = true) : 0 ≤ newS l := by
  unfold newS
  split
  · exact Int.le_refl _
  · exact Int.le_of_lt (rf_ge hr _ (by omega))
theorem rf_add {l : List (Int × Int)} {v : Int × Int} (hr : rightFrom 0 l = true) (h : newS l < v.1) : rightFrom 0 (l ++ [v]) = true :=
  rf_snoc hr (by have := newS_nonneg hr; omega) fun i hi => by have := newS_last hr (Int.le_refl _) i hi; omega
theorem newS_snoc (l : List (Int × Int)) (v : Int × Int) : newS (l ++ [v]) = v.1 := by
  unfold newS
  simp
theorem newS_drop (l : List (Int × Int)) (k : Nat) (h : k < l.length ∨ k = 0) : newS (l.drop k) = newS l := by
  rcases h with h | rfl
  · unfold newS
    rw [List.length_drop, if_neg (by omega), if_neg (by omega)]
    simp only [List.getD_eq_getElem?_getD, List.getElem?_drop]
    rw [show k + (l.length - k - 1) = l.length - 1 by omega]
  · simp
theorem atV_snoc {l : List (Int × Int)} {v : Int × Int} (hr : rightFrom 0 l = true) (h : newS l < v.1) (q : Int) : atV (l ++ [v]) q = if v.1 ≤ q then v.2 else atV l q := by
  have hall : v.1 ≤ q → cnt l q = l.length := fun hv => by
    have hle := cnt_le l q
    apply Classical.byContradiction
    intro hne
    have := cnt_stop l q (by omega)
    have := newS_last hr (Int.le_refl _) (cnt l q) (by omega)
    omega
  unfold atV
  rw [cnt_snoc]
  by_cases hv : v.1 ≤ q
  · rw [if_pos (hall hv), if_pos hv, if_pos hv, if_neg (by omega)]
    simp
  · rw [if_neg hv, if_neg hv]
    have e : (if cnt l q = l.length then l.length else cnt l q) = cnt l q := by split <;> omega
    rw [e]
    by_cases h0 : cnt l q = 0
    · rw [if_pos h0, if_pos h0]
    · rw [if_neg h0, if_neg h0, getD_app_lt _ _ _ _ (by have := cnt_le l q; omega)]
theorem rf_trim {l : List (Int × Int)} (hr : rightFrom 0 l = true) (m : Int) : rightFrom 0 (trimS l m) = true := rf_drop _ hr
theorem newS_trim (l : List (Int × Int)) (m : Int) : newS (trimS l m) = newS l := newS_drop l _ (by have := cnt_le l m; omega)
theorem atV_trim (l : List (Int × Int)) {m q : Int} (h : m ≤ q) : atV (trimS l m) q = atV l q := atV_drop l q _ (by have := cnt_mono l h; omega)
theorem trim_trim (l : List (Int × Int)) {m q : Int} (h : q ≤ m) : trimS (trimS l m) q = trimS l m := by
  have h1 := cnt_mono (trimS l m) h
  have h2 : cnt (trimS l m) m ≤ 1 := by
    unfold trimS
    rw [cnt_drop l m _ (by omega)]
    omega
  have h3 : trimS (trimS l m) q = (trimS l m).drop (cnt (trimS l m) q - 1) := rfl
  rw [h3, show cnt (trimS l m) q - 1 = 0 by omega, List.drop_zero]
theorem trim_len (l : List (Int × Int)) (m : Int) : (trimS l m).length ≤ l.length := by simp [trimS]
theorem chainFrom_ok : ∀ (ks : List Int) (n : Int), 0 ≤ n → rightFrom n (chainFrom n ks) = true ∧ (∀ i, i < (chainFrom n ks).length → ((chainFrom n ks).getD i (0, 0)).1 ≤ n + 5 * ks.length) ∧ (chainFrom n ks).length = ks.length
  | [], n, _ => by simp [chainFrom, rightFrom]
  | k :: ks, n, hn => by
    have hk := Int.emod_nonneg k (show (5 : Int) ≠ 0 by decide)
    have hk2 := Int.emod_lt_of_pos k (show (0 : Int) < 5 by decide)
    obtain ⟨h1, h2, h3⟩ := chainFrom_ok ks (n + 1 + k % 5) (by omega)
    simp only [chainFrom, List.length_cons]
    refine ⟨rf_cons.2 ⟨by simp only; omega, h1⟩, fun i hi => ?_, by omega⟩
    cases i with
    | zero => simp; omega
    | succ i =>
      have := h2 i (by omega)
      simp only [List.getD_cons_succ]
      omega
theorem chainS_rf (ks : List Int) : rightFrom 0 (chainS ks) = true := (chainFrom_ok _ 0 (by omega)).1
theorem chainS_len (ks : List Int) : (chainS ks).length ≤ 20 := by
  unfold chainS
  rw [(chainFrom_ok _ 0 (by omega)).2.2]
  simp; omega
theorem chainS_le (ks : List Int) : ∀ i, i < (chainS ks).length → ((chainS ks).getD i (0, 0)).1 ≤ 100 := by
  intro i hi
  have := (chainFrom_ok (ks.take 20) 0 (by omega)).2.1 i hi
  have h2 : (ks.take 20).length ≤ 20 := by simp; omega
  show ((chainFrom 0 (ks.take 20)).getD i (0, 0)).1 ≤ 100
  omega
theorem newS_chain (ks : List Int) : 0 ≤ newS (chainS ks) ∧ newS (chainS ks) ≤ 100 := by
  refine ⟨newS_nonneg (chainS_rf ks), ?_⟩
  unfold newS
  split
  · decide
  · exact chainS_le ks _ (by omega)
theorem lenOk_of {α : Type} {l : List α} (h : l.length < 1000000) : lenOk l = true := by simp [lenOk, h]
theorem lenOk_lt {α : Type} {l : List α} (h : lenOk l = true) : l.length < 1000000 := by simpa [lenOk] using h
theorem isU_of {n : Int} (h : isU n = true) : 0 ≤ n ∧ n ≤ 18446744073709551615 := by simpa [isU] using h
theorem isU_mk {n : Int} (h1 : 0 ≤ n) (h2 : n ≤ 18446744073709551615) : isU n = true := by simp [isU, h1, h2]
theorem allU_get {l : List (Int × Int)} (h : allU l = true) (i : Nat) (hi : i < l.length) : 0 ≤ (l.getD i (0, 0)).1 := by
  have := List.all_eq_true.1 h l[i] (List.getElem_mem hi)
  rw [List.getD_eq_getElem?_getD, List.getElem?_eq_getElem hi]
  exact (isU_of this).1
theorem allU_of {l : List (Int × Int)} (h : ∀ i, i < l.length → 0 ≤ (l.getD i (0, 0)).1 ∧ (l.getD i (0, 0)).1 ≤ 18446744073709551615) : allU l = true := by
  refine List.all_eq_true.2 fun v hv => ?_
  obtain ⟨i, hi, rfl⟩ := List.getElem_of_mem hv
  have := h i hi
  rw [List.getD_eq_getElem?_getD, List.getElem?_eq_getElem hi] at this
  exact isU_mk this.1 this.2
theorem digitS_range (k d : Int) {n : Int} (h : 0 < n) : 0 ≤ digitS k d n ∧ digitS k d n < n := ⟨Int.emod_nonneg _ (by omega), Int.emod_lt_of_pos _ h⟩
end Go.BB
set_option linter.unusedSimpArgs false
set_option linter.unusedVariables false
namespace Go.BB
open Go Go.Proofs
set_option maxRecDepth 100000
theorem v_upto : Valid Try.prog n_upto c_upto := by
  refine valid_fn mixed hf_upto (by kernel_rfl) rfl (ts := tmpsOf f_upto.results.toList) (by kernel_rfl) (cfg := cfgW g_upto) tt_ok Γok_nil upto_tm c_upto (by kernel_rfl) (fun _ _ _ _ => ⟨⟩) ?_
  rintro ⟨(l : List (Int × Int)), (q : Int), ⟨⟩⟩ r u h
  obtain ⟨h1, h2⟩ := grd_some h
  simp only [Bool.and_eq_true] at h1 h2
  have hl := lenOk_lt h1.1
  refine ⟨l.length + 1, (upto_rn _ _ _).trans (Eq.trans ?_ (congrArg some h2))⟩
  unfold upto_P
  have hc := cnt_le l q
  refine loopN_meas (step := upto_L1) (fun x => x.2.2.2.1.toNat - x.2.2.1.toNat) (fun x => ∃ (a b : Nat), a ≤ cnt l q ∧ cnt l q ≤ b ∧ b ≤ l.length ∧ x = (l, q, (a : Int), (b : Int), ())) (fun _ => some ((((cnt l q : Nat) : Int), ()), (), (), ())) ?_ _ _ ⟨0, l.length, by omega, by omega, by omega, rfl⟩ (by simp only; omega)
  rintro x ⟨a, b, ha, hb, hbl, rfl⟩ rec hrec
  simp only [upto_L1, sh1]
  by_cases h : a < b
  · have e : IntKind.i64.wrap ((a : Int) + b) / 2 = (((a + b) / 2 : Nat) : Int) := by rw [wrapI (by omega) (by omega)]; omega
    rw [br_dt (by omega), e, br_dt (by omega), br_dt (by omega), Int.toNat_natCast]
    have hi := cnt_iff h1.2 q ((a + b) / 2) (by omega)
    by_cases hv : (l.getD ((a + b) / 2) (0, 0)).1 ≤ q
    · rw [br_dt hv, wrapI (by omega) (by omega)]
      have := hi.1 hv
      exact hrec _ ⟨(a + b) / 2 + 1, b, by omega, hb, hbl, by simp⟩ (by simp only; omega)
    · rw [br_df hv]
      have : ¬ (a + b) / 2 < cnt l q := fun h => hv (hi.2 h)
      exact hrec _ ⟨a, (a + b) / 2, ha, by omega, by omega, rfl⟩ (by simp only; omega)
  · rw [br_df (by omega), show a = cnt l q by omega]
theorem v_chainAt : Valid Try.prog n_chainAt c_chainAt := by
  refine valid_fn mixed hf_chainAt (by kernel_rfl) rfl (ts := tmpsOf f_chainAt.results.toList) (by kernel_rfl) (cfg := cfgW g_chainAt) tt_ok (Γok_cons v_upto Γok_nil) chainAt_tm c_chainAt (by kernel_rfl) (fun _ _ _ _ => ⟨⟩) ?_
  rintro ⟨(l : List (Int × Int)), (q : Int), ⟨⟩⟩ r u h
  obtain ⟨h1, h2⟩ := grd_some h
  simp only at h1 h2
  have hl := lenOk_lt (Bool.and_eq_true _ _ ▸ h1 : _ ∧ _).1
  have hc := cnt_le l q
  refine ⟨0, (chainAt_rn _ _ _).trans (Eq.trans ?_ (congrArg some h2))⟩
  unfold chainAt_P atV
  rw [bd_grd h1]
  simp only
  by_cases h0 : cnt l q = 0
  · rw [br_t (by simp [h0]), if_pos h0]; rfl
  · have e1 : IntKind.i64.wrap ((cnt l q : Int) - 1) = ((cnt l q - 1 : Nat) : Int) := (wrapI (by omega) (by omega)).trans (by omega)
    rw [br_f (by simpa using h0), e1, br_dt (by omega), br_dt (by omega), if_neg h0, Int.toNat_natCast]; rfl
theorem v_rchainAt : Valid Try.prog n_rchainAt c_rchainAt := by
  refine valid_fn mixed hf_rchainAt (by kernel_rfl) rfl (ts := tmpsOf f_rchainAt.results.toList) (by kernel_rfl) (cfg := cfgW g_rchainAt) tt_ok Γok_nil rchainAt_tm c_rchainAt (by kernel_rfl) (fun _ _ _ _ => ⟨⟩) ?_
  rintro ⟨(l : List (Int × Int)), (q : Int), ⟨⟩⟩ r u h
  obtain ⟨h1, h2⟩ := grd_some h
  simp only at h1 h2
  have hl := lenOk_lt h1
  have hc := cnt_le l q
  refine ⟨cnt l q + 1, (rchainAt_rn _ _ _).trans (Eq.trans ?_ (congrArg some h2))⟩
  unfold rchainAt_P
  refine loopN_for (step := rchainAt_L1) (cnt l q) (fun i => (l, q, (if i = 0 then 0 else (l.getD (i - 1) (0, 0)).2), (i : Int), ())) (fun i hi rec => ?_) (fun rec => ?_) _ (by omega)
  · simp only [rchainAt_L1, Int.toNat_natCast]
    rw [br_dt (by omega), br_dt (by omega), br_dt (by omega), br_dt (cnt_lt l q i hi), br_dt (by omega), br_dt (by omega), wrapI (by omega) (by omega)]
    simp
  · simp only [rchainAt_L1, Int.toNat_natCast]
    by_cases h : cnt l q < l.length
    · rw [br_dt (by omega), br_dt (by omega), br_dt (by omega), br_df (cnt_stop l q h)]; rfl
    · rw [br_df (by omega)]; rfl
theorem newest_ok (l : List (Int × Int)) (hl : l.length < 1000000) : newest_P 0 l = some ((newS l, ()), (), ()) := by
  unfold newest_P newS
  by_cases h0 : l.length = 0
  · rw [br_t (by simp [h0]), if_pos h0]
  · have e1 : IntKind.i64.wrap ((l.length : Int) - 1) = ((l.length - 1 : Nat) : Int) := (wrapI (by omega) (by omega)).trans (by omega)
    rw [br_f (by simpa using h0), e1, br_dt (by omega), br_dt (by omega), if_neg h0, Int.toNat_natCast]
theorem v_newest : Valid Try.prog n_newest c_newest := by
  refine valid_fn mixed hf_newest (by kernel_rfl) rfl (ts := tmpsOf f_newest.results.toList) (by kernel_rfl) (cfg := cfgW g_newest) tt_ok Γok_nil newest_tm c_newest (by kernel_rfl) (fun _ _ _ _ => ⟨⟩) ?_
  rintro ⟨(l : List (Int × Int)), ⟨⟩⟩ r u h
  obtain ⟨h1, h2⟩ := grd_some h
  simp only at h1 h2
  exact ⟨0, (newest_rn _ _).trans ((newest_ok l (lenOk_lt h1)).trans (congrArg some h2))⟩
theorem v_rnewest : Valid Try.prog n_rnewest c_rnewest := by
  refine valid_fn mixed hf_rnewest (by kernel_rfl) rfl (ts := tmpsOf f_rnewest.results.toList) (by kernel_rfl) (cfg := cfgW g_rnewest) tt_ok Γok_nil rnewest_tm c_rnewest (by kernel_rfl) (fun _ _ _ _ => ⟨⟩) ?_
  rintro ⟨(l : List (Int × Int)), ⟨⟩⟩ r u h
  obtain ⟨h1, h2⟩ := grd_some h
  simp only at h1 h2
  exact ⟨0, (rnewest_rn _ _).trans ((newest_ok l (lenOk_lt h1)).trans (congrArg some h2))⟩
theorem v_rchainAdd : Valid Try.prog n_rchainAdd c_rchainAdd := by
  refine valid_fn mixed hf_rchainAdd (by kernel_rfl) rfl (ts := tmpsOf f_rchainAdd.results.toList) (by kernel_rfl) (cfg := cfgW g_rchainAdd) tt_ok (Γok_cons v_rnewest Γok_nil) rchainAdd_tm c_rchainAdd (by kernel_rfl) (fun _ _ _ _ => ⟨⟩) ?_
  rintro ⟨(l : List (Int × Int)), (v : Int × Int), ⟨⟩⟩ r u h
  obtain ⟨h1, h2⟩ := grd_some h
  simp only at h1 h2
  have hl := lenOk_lt h1
  refine ⟨0, (rchainAdd_rn _ _ _).trans (Eq.trans ?_ (congrArg some h2))⟩
  unfold rchainAdd_P addS
  rw [bd_grd h1]
  simp only
  by_cases hv : v.1 ≤ newS l
  · rw [br_dt hv, if_pos hv]; rfl
  · rw [br_df hv, if_neg hv, br_dt (lim_mul (by omega) (by decide)), br_dt (lim_le (by omega)), br_dt (lim_mul (by simp; omega) (by decide)), br_dt (lim_le (by simp; omega))]; rfl
theorem v_trim : Valid Try.prog n_trim c_trim := by
  refine valid_fn mixed hf_trim (by kernel_rfl) rfl (ts := tmpsOf f_trim.results.toList) (by kernel_rfl) (cfg := cfgW g_trim) tt_ok (Γok_cons v_upto (Γok_cons v_cloneVersions Γok_nil)) trim_tm c_trim (by kernel_rfl) (fun _ _ _ _ => ⟨⟩) ?_
  rintro ⟨(l : List (Int × Int)), (q : Int), ⟨⟩⟩ r u h
  obtain ⟨h1, h2⟩ := grd_some h
  simp only at h1 h2
  have hl := lenOk_lt (Bool.and_eq_true _ _ ▸ h1 : _ ∧ _).1
  have hc := cnt_le l q
  refine ⟨0, (trim_rn _ _ _).trans (Eq.trans ?_ (congrArg some h2))⟩
  unfold trim_P trimS
  rw [bd_grd h1]
  have e1 : maxI (IntKind.i64.wrap ((cnt l q : Int) - 1)) 0 = ((cnt l q - 1 : Nat) : Int) := by rw [wrapI (by omega) (by omega), maxI_eq]; omega
  simp only [e1, Int.toNat_natCast]
  have e2 : List.take (l.length - (cnt l q - 1)) (List.drop (cnt l q - 1) l) = List.drop (cnt l q - 1) l := List.take_of_length_le (by simp)
  rw [br_dt (by omega), br_dt (by omega), e2, bd_grd (by simp; omega)]
  rfl
theorem v_rtrim : Valid Try.prog n_rtrim c_rtrim := by
  refine valid_fn mixed hf_rtrim (by kernel_rfl) rfl (ts := tmpsOf f_rtrim.results.toList) (by kernel_rfl) (cfg := cfgW g_rtrim) tt_ok Γok_nil rtrim_tm c_rtrim (by kernel_rfl) (fun _ _ _ _ => ⟨⟩) ?_
  rintro ⟨(l : List (Int × Int)), (q : Int), ⟨⟩⟩ r u h
  obtain ⟨h1, h2⟩ := grd_some h
  simp only [Bool.and_eq_true] at h1 h2
  have hl := lenOk_lt h1.1
  have hc := cnt_le l q
  refine ⟨l.length + 1, (rtrim_rn _ _ _).trans (Eq.trans ?_ (congrArg some h2))⟩
  unfold rtrim_P trimS
  have := loopN_for (step := rtrim_L1) l.length (fun i => (l, q, (l.take i).drop (cnt l q - 1), (i : Int), ())) (res := some ((l.drop (cnt l q - 1), ()), (), (), ())) (fun i hi rec => ?_) (fun rec => ?_) (l.length + 1) (by omega)
  · rw [List.take_zero, List.drop_nil] at this
    exact this
  · simp only [rtrim_L1, Int.toNat_natCast]
    have e1 : IntKind.i64.wrap ((i : Int) + 1) = ((i + 1 : Nat) : Int) := (wrapI (by omega) (by omega)).trans (by omega)
    rw [e1, Int.toNat_natCast, br_dt (by omega)]
    have hkeep : cnt l q ≤ i + 1 → br (decide ((0 : Int) ≤ i)) (br (decide ((i : Int) < l.length)) (br (decide ((((l.take i).drop (cnt l q - 1)).length + [((l.getD i (0, 0)).1, (l.getD i (0, 0)).2)].length) * 16 ≤ LIM))
        (br (decide (((l.take i).drop (cnt l q - 1)).length + [((l.getD i (0, 0)).1, (l.getD i (0, 0)).2)].length ≤ LIM)) (rec (l, q, cat ((l.take i).drop (cnt l q - 1)) [((l.getD i (0, 0)).1, (l.getD i (0, 0)).2)], ((i + 1 : Nat) : Int), ())) none) none) none) none
        = rec (l, q, (l.take (i + 1)).drop (cnt l q - 1), ((i + 1 : Nat) : Int), ()) := by
      intro hle
      rw [br_dt (by omega), br_dt (by omega), br_dt (lim_mul (by simp; omega) (by decide)), br_dt (lim_le (by simp; omega)), take_snoc l i (0, 0) hi, List.drop_append_of_le_length (by simp; omega)]
      rfl
    by_cases hn : i + 1 < l.length
    · rw [br_dt (by omega), br_dt (by omega), br_dt (by omega)]
      have hiff := cnt_iff h1.2 q (i + 1) hn
      by_cases hv : (l.getD (i + 1) (0, 0)).1 ≤ q
      · have := hiff.1 hv
        have z1 : (l.take i).drop (cnt l q - 1) = [] := List.drop_eq_nil_of_le (by simp; omega)
        have z2 : (l.take (i + 1)).drop (cnt l q - 1) = [] := List.drop_eq_nil_of_le (by simp; omega)
        rw [br_dt hv, z1, z2]
      · have : ¬ i + 1 < cnt l q := fun h => hv (hiff.2 h)
        rw [br_df hv]
        exact hkeep (by omega)
    · rw [br_df (by omega)]
      exact hkeep (by omega)
  · simp only [rtrim_L1]
    rw [br_df (by omega), List.take_length]
end Go.BB
