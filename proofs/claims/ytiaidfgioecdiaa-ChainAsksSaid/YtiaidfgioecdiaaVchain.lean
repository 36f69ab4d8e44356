/- A symbolic machine for the model's code, and what it shows of this seat's functions. No conditions. -/
import Derived.Test.YtiaidfgioecdiaaGchain
import Derived.Test.YtiaidfgioecdiaaVcom
import Derived.Test.YtiaidfgioecdiaaLChain
set_option linter.unusedSimpArgs false
set_option linter.unusedVariables false
namespace Go.BB
open Go Go.Proofs
set_option maxRecDepth 100000
theorem v_chainRight : Valid Try.prog n_chainRight c_chainRight := by
  refine valid_fn mixed hf_chainRight (by kernel_rfl) rfl (ts := tmpsOf f_chainRight.results.toList) (by kernel_rfl) (cfg := cfgW g_chainRight) tt_ok Γok_nil chainRight_tm c_chainRight (by kernel_rfl) (fun _ _ _ _ => ⟨⟩) ?_
  rintro ⟨(l : List (Int × Int)), ⟨⟩⟩ r u h
  obtain ⟨h1, h2⟩ := grd_some h
  simp only at h1 h2
  have hl := lenOk_lt h1
  refine ⟨l.length + 1, (chainRight_rn _ _).trans (Eq.trans ?_ (congrArg some h2))⟩
  unfold chainRight_P
  refine loopN_meas (step := chainRight_L1) (fun x => l.length - x.2.2.2.1.toNat) (fun x => ∃ (a : Int) (i : Nat), i ≤ l.length ∧ x = (a, l, (l.length : Int), (i : Int), ()) ∧ rightFrom a (l.drop i) = rightFrom 0 l) (fun _ => some ((rightFrom 0 l, ()), (), ())) ?_ _ _ ⟨0, 0, by omega, rfl, by simp⟩ (by simp only; omega)
  rintro x ⟨a, i, hi, rfl, hr⟩ rec hrec
  simp only [chainRight_L1, Int.toNat_natCast]
  by_cases h : i < l.length
  · rw [drop_cons l i (0, 0) h] at hr
    simp only [rightFrom] at hr
    rw [br_dt (by omega), br_dt (by omega), br_dt (by omega), wrapI (by omega) (by omega)]
    by_cases hv : (l.getD i (0, 0)).1 ≤ a
    · rw [br_dt hv, ← hr, decide_eq_false (by omega : ¬ a < (l.getD i (0, 0)).1)]
      rfl
    · rw [br_df hv]
      rw [decide_eq_true (by omega : a < (l.getD i (0, 0)).1), Bool.true_and] at hr
      exact hrec _ ⟨_, i + 1, by omega, by simp, hr⟩ (by simp only [Int.toNat_natCast]; omega)
  · rw [br_df (by omega), ← hr, List.drop_eq_nil_of_le (by omega)]
    rfl
theorem v_rchainRight : Valid Try.prog n_rchainRight c_rchainRight := by
  refine valid_fn mixed hf_rchainRight (by kernel_rfl) rfl (ts := tmpsOf f_rchainRight.results.toList) (by kernel_rfl) (cfg := cfgW g_rchainRight) tt_ok Γok_nil rchainRight_tm c_rchainRight (by kernel_rfl) (fun _ _ _ _ => ⟨⟩) ?_
  rintro ⟨(l : List (Int × Int)), ⟨⟩⟩ r u h
  obtain ⟨h1, h2⟩ := grd_some h
  simp only [Bool.and_eq_true] at h1 h2
  have hl := lenOk_lt h1.1
  refine ⟨l.length + 1, (rchainRight_rn _ _).trans (Eq.trans ?_ (congrArg some h2))⟩
  unfold rchainRight_P
  refine loopN_meas (step := rchainRight_L1) (fun x => l.length - x.2.1.toNat) (fun x => ∃ (i : Nat), i ≤ l.length ∧ x = (l, (i : Int), ()) ∧ rightFrom (if i = 0 then 0 else (l.getD (i - 1) (0, 0)).1) (l.drop i) = rightFrom 0 l) (fun _ => some ((rightFrom 0 l, ()), (), ())) ?_ _ _ ⟨0, by omega, rfl, by simp⟩ (by simp only; omega)
  rintro x ⟨i, hi, rfl, hr⟩ rec hrec
  simp only [rchainRight_L1, Int.toNat_natCast]
  by_cases h : i < l.length
  · have hge := allU_get h1.2 i h
    rw [drop_cons l i (0, 0) h] at hr
    simp only [rightFrom] at hr
    rw [br_dt (by omega), br_dt (by omega), br_dt (by omega), wrapI (n := (i : Int) + 1) (by omega) (by omega)]
    have hnext : (if i + 1 = 0 then (0 : Int) else (l.getD (i + 1 - 1) (0, 0)).1) = (l.getD i (0, 0)).1 := by simp
    by_cases h0 : (l.getD i (0, 0)).1 = 0
    · rw [br_t (by rw [h0]; rfl), ← hr]
      have : ¬ (if i = 0 then (0 : Int) else (l.getD (i - 1) (0, 0)).1) < (l.getD i (0, 0)).1 := by
        split
        · omega
        · have := allU_get h1.2 (i - 1) (by omega); omega
      rw [decide_eq_false this]
      rfl
    · rw [br_f (by simpa using h0)]
      by_cases hi0 : i = 0
      · subst hi0
        rw [br_df (by omega)]
        rw [if_pos rfl, decide_eq_true (by omega), Bool.true_and] at hr
        exact hrec _ ⟨1, by omega, by simp, by rw [← hr]; simp⟩ (by simp only [Int.toNat_natCast]; omega)
      · have e1 : IntKind.i64.wrap ((i : Int) - 1) = ((i - 1 : Nat) : Int) := (wrapI (by omega) (by omega)).trans (by omega)
        rw [br_dt (by omega), e1, br_dt (by omega), br_dt (by omega), br_dt (by omega), br_dt (by omega), Int.toNat_natCast]
        rw [if_neg hi0] at hr
        by_cases hv : (l.getD (i - 1) (0, 0)).1 ≥ (l.getD i (0, 0)).1
        · rw [br_dt hv, ← hr, decide_eq_false (by omega)]
          rfl
        · rw [br_df hv]
          rw [decide_eq_true (by omega), Bool.true_and] at hr
          exact hrec _ ⟨i + 1, by omega, by simp, by rw [hnext]; exact hr⟩ (by simp only [Int.toNat_natCast]; omega)
  · rw [br_df (by omega), ← hr, List.drop_eq_nil_of_le (by omega)]
    rfl
theorem v_upto : Valid Try.prog n_upto c_upto := by
  refine valid_fn mixed hf_upto (by kernel_rfl) rfl (ts := tmpsOf f_upto.results.toList) (by kernel_rfl) (cfg := cfgW g_upto) tt_ok Γok_nil upto_tm c_upto (by kernel_rfl) (fun _ _ _ _ => ⟨⟩) ?_
  rintro ⟨(l : List (Int × Int)), (q : Int), ⟨⟩⟩ r u h
  obtain ⟨h1, h2⟩ := grd_some h
  simp only [Bool.and_eq_true] at h1 h2
  have hl := lenOk_lt h1.1
  refine ⟨l.length + 1, (upto_rn _ _ _).trans (Eq.trans ?_ (congrArg some h2))⟩
  unfold upto_P
  have hc := cnt_le l q
  refine loopN_meas (step := upto_L1) (fun x => x.2.2.2.1.toNat - x.2.2.1.toNat) (fun x => ∃ (a b : Nat), a ≤ cnt l q ∧ cnt l q ≤ b ∧ b ≤ l.length ∧ x = (l, q, (a : Int), (b : Int), ())) (fun _ => some ((((cnt l q : Nat) : Int), ()), (), (), ())) ?_ _ _ ⟨0, l.length, by omega, by omega, by omega, rfl⟩ (by simp only; omega)
  rintro x ⟨a, b, ha, hb, hbl, rfl⟩ rec hrec
  simp only [upto_L1, sh1]
  by_cases h : a < b
  · have e : IntKind.i64.wrap ((a : Int) + b) / 2 = (((a + b) / 2 : Nat) : Int) := by rw [wrapI (by omega) (by omega)]; omega
    rw [br_dt (by omega), e, br_dt (by omega), br_dt (by omega), Int.toNat_natCast]
    have hi := cnt_iff h1.2 q ((a + b) / 2) (by omega)
    by_cases hv : (l.getD ((a + b) / 2) (0, 0)).1 ≤ q
    · rw [br_dt hv, wrapI (by omega) (by omega)]
      have := hi.1 hv
      exact hrec _ ⟨(a + b) / 2 + 1, b, by omega, hb, hbl, by simp⟩ (by simp only; omega)
    · rw [br_df hv]
      have : ¬ (a + b) / 2 < cnt l q := fun h => hv (hi.2 h)
      exact hrec _ ⟨a, (a + b) / 2, ha, by omega, by omega, rfl⟩ (by simp only; omega)
  · rw [br_df (by omega), show a = cnt l q by omega]
theorem v_chainAt : Valid Try.prog n_chainAt c_chainAt := by
  refine valid_fn mixed hf_chainAt (by kernel_rfl) rfl (ts := tmpsOf f_chainAt.results.toList) (by kernel_rfl) (cfg := cfgW g_chainAt) tt_ok (Γok_cons v_upto Γok_nil) chainAt_tm c_chainAt (by kernel_rfl) (fun _ _ _ _ => ⟨⟩) ?_
  rintro ⟨(l : List (Int × Int)), (q : Int), ⟨⟩⟩ r u h
  obtain ⟨h1, h2⟩ := grd_some h
  simp only at h1 h2
  have hl := lenOk_lt (Bool.and_eq_true _ _ ▸ h1 : _ ∧ _).1
  have hc := cnt_le l q
  refine ⟨0, (chainAt_rn _ _ _).trans (Eq.trans ?_ (congrArg some h2))⟩
  unfold chainAt_P atV
  rw [bd_grd h1]
  simp only
  by_cases h0 : cnt l q = 0
  · rw [br_t (by simp [h0]), if_pos h0]; rfl
  · have e1 : IntKind.i64.wrap ((cnt l q : Int) - 1) = ((cnt l q - 1 : Nat) : Int) := (wrapI (by omega) (by omega)).trans (by omega)
    rw [br_f (by simpa using h0), e1, br_dt (by omega), br_dt (by omega), if_neg h0, Int.toNat_natCast]; rfl
theorem v_rchainAt : Valid Try.prog n_rchainAt c_rchainAt := by
  refine valid_fn mixed hf_rchainAt (by kernel_rfl) rfl (ts := tmpsOf f_rchainAt.results.toList) (by kernel_rfl) (cfg := cfgW g_rchainAt) tt_ok Γok_nil rchainAt_tm c_rchainAt (by kernel_rfl) (fun _ _ _ _ => ⟨⟩) ?_
  rintro ⟨(l : List (Int × Int)), (q : Int), ⟨⟩⟩ r u h
  obtain ⟨h1, h2⟩ := grd_some h
  simp only at h1 h2
  have hl := lenOk_lt h1
  have hc := cnt_le l q
  refine ⟨cnt l q + 1, (rchainAt_rn _ _ _).trans (Eq.trans ?_ (congrArg some h2))⟩
  unfold rchainAt_P
  refine loopN_for (step := rchainAt_L1) (cnt l q) (fun i => (l, q, (if i = 0 then 0 else (l.getD (i - 1) (0, 0)).2), (i : Int), ())) (fun i hi rec => ?_) (fun rec => ?_) _ (by omega)
  · simp only [rchainAt_L1, Int.toNat_natCast]
    rw [br_dt (by omega), br_dt (by omega), br_dt (by omega), br_dt (cnt_lt l q i hi), br_dt (by omega), br_dt (by omega), wrapI (by omega) (by omega)]
    simp
  · simp only [rchainAt_L1, Int.toNat_natCast]
    by_cases h : cnt l q < l.length
    · rw [br_dt (by omega), br_dt (by omega), br_dt (by omega), br_df (cnt_stop l q h)]; rfl
    · rw [br_df (by omega)]; rfl
theorem newest_ok (l : List (Int × Int)) (hl : l.length < 1000000) : newest_P 0 l = some ((newS l, ()), (), ()) := by
  unfold newest_P newS
  by_cases h0 : l.length = 0
  · rw [br_t (by simp [h0]), if_pos h0]
  · have e1 : IntKind.i64.wrap ((l.length : Int) - 1) = ((l.length - 1 : Nat) : Int) := (wrapI (by omega) (by omega)).trans (by omega)
    rw [br_f (by simpa using h0), e1, br_dt (by omega), br_dt (by omega), if_neg h0, Int.toNat_natCast]
theorem v_newest : Valid Try.prog n_newest c_newest := by
  refine valid_fn mixed hf_newest (by kernel_rfl) rfl (ts := tmpsOf f_newest.results.toList) (by kernel_rfl) (cfg := cfgW g_newest) tt_ok Γok_nil newest_tm c_newest (by kernel_rfl) (fun _ _ _ _ => ⟨⟩) ?_
  rintro ⟨(l : List (Int × Int)), ⟨⟩⟩ r u h
  obtain ⟨h1, h2⟩ := grd_some h
  simp only at h1 h2
  exact ⟨0, (newest_rn _ _).trans ((newest_ok l (lenOk_lt h1)).trans (congrArg some h2))⟩
theorem v_rnewest : Valid Try.prog n_rnewest c_rnewest := by
  refine valid_fn mixed hf_rnewest (by kernel_rfl) rfl (ts := tmpsOf f_rnewest.results.toList) (by kernel_rfl) (cfg := cfgW g_rnewest) tt_ok Γok_nil rnewest_tm c_rnewest (by kernel_rfl) (fun _ _ _ _ => ⟨⟩) ?_
  rintro ⟨(l : List (Int × Int)), ⟨⟩⟩ r u h
  obtain ⟨h1, h2⟩ := grd_some h
  simp only at h1 h2
  exact ⟨0, (rnewest_rn _ _).trans ((newest_ok l (lenOk_lt h1)).trans (congrArg some h2))⟩
theorem v_chainAdd : Valid Try.prog n_chainAdd c_chainAdd := by
  refine valid_fn mixed hf_chainAdd (by kernel_rfl) rfl (ts := tmpsOf f_chainAdd.results.toList) (by kernel_rfl) (cfg := cfgW g_chainAdd) tt_ok (Γok_cons v_newest (Γok_cons v_cloneVersions Γok_nil)) chainAdd_tm c_chainAdd (by kernel_rfl) (fun _ _ _ _ => ⟨⟩) ?_
  rintro ⟨(l : List (Int × Int)), (v : Int × Int), ⟨⟩⟩ r u h
  obtain ⟨h1, h2⟩ := grd_some h
  simp only at h1 h2
  have hl := lenOk_lt h1
  refine ⟨0, (chainAdd_rn _ _ _).trans (Eq.trans ?_ (congrArg some h2))⟩
  unfold chainAdd_P addS
  rw [bd_grd h1]
  simp only
  by_cases hv : v.1 ≤ newS l
  · rw [br_dt hv, if_pos hv]; rfl
  · rw [br_df hv, if_neg hv, bd_grd (by simpa using hl), br_dt (lim_mul (by simp; omega) (by decide)), br_dt (lim_le (by simp; omega))]; rfl
theorem v_rchainAdd : Valid Try.prog n_rchainAdd c_rchainAdd := by
  refine valid_fn mixed hf_rchainAdd (by kernel_rfl) rfl (ts := tmpsOf f_rchainAdd.results.toList) (by kernel_rfl) (cfg := cfgW g_rchainAdd) tt_ok (Γok_cons v_rnewest Γok_nil) rchainAdd_tm c_rchainAdd (by kernel_rfl) (fun _ _ _ _ => ⟨⟩) ?_
  rintro ⟨(l : List (Int × Int)), (v : Int × Int), ⟨⟩⟩ r u h
  obtain ⟨h1, h2⟩ := grd_some h
  simp only at h1 h2
  have hl := lenOk_lt h1
  refine ⟨0, (rchainAdd_rn _ _ _).trans (Eq.trans ?_ (congrArg some h2))⟩
  unfold rchainAdd_P addS
  rw [bd_grd h1]
  simp only
  by_cases hv : v.1 ≤ newS l
  · rw [br_dt hv, if_pos hv]; rfl
  · rw [br_df hv, if_neg hv, br_dt (lim_mul (by omega) (by decide)), br_dt (lim_le (by omega)), br_dt (lim_mul (by simp; omega) (by decide)), br_dt (lim_le (by simp; omega))]; rfl
theorem v_trim : Valid Try.prog n_trim c_trim := by
  refine valid_fn mixed hf_trim (by kernel_rfl) rfl (ts := tmpsOf f_trim.results.toList) (by kernel_rfl) (cfg := cfgW g_trim) tt_ok (Γok_cons v_upto (Γok_cons v_cloneVersions Γok_nil)) trim_tm c_trim (by kernel_rfl) (fun _ _ _ _ => ⟨⟩) ?_
  rintro ⟨(l : List (Int × Int)), (q : Int), ⟨⟩⟩ r u h
  obtain ⟨h1, h2⟩ := grd_some h
  simp only at h1 h2
  have hl := lenOk_lt (Bool.and_eq_true _ _ ▸ h1 : _ ∧ _).1
  have hc := cnt_le l q
  refine ⟨0, (trim_rn _ _ _).trans (Eq.trans ?_ (congrArg some h2))⟩
  unfold trim_P trimS
  rw [bd_grd h1]
  have e1 : maxI (IntKind.i64.wrap ((cnt l q : Int) - 1)) 0 = ((cnt l q - 1 : Nat) : Int) := by rw [wrapI (by omega) (by omega), maxI_eq]; omega
  simp only [e1, Int.toNat_natCast]
  have e2 : List.take (l.length - (cnt l q - 1)) (List.drop (cnt l q - 1) l) = List.drop (cnt l q - 1) l := List.take_of_length_le (by simp)
  rw [br_dt (by omega), br_dt (by omega), e2, bd_grd (by simp; omega)]
  rfl
theorem v_rtrim : Valid Try.prog n_rtrim c_rtrim := by
  refine valid_fn mixed hf_rtrim (by kernel_rfl) rfl (ts := tmpsOf f_rtrim.results.toList) (by kernel_rfl) (cfg := cfgW g_rtrim) tt_ok Γok_nil rtrim_tm c_rtrim (by kernel_rfl) (fun _ _ _ _ => ⟨⟩) ?_
  rintro ⟨(l : List (Int × Int)), (q : Int), ⟨⟩⟩ r u h
  obtain ⟨h1, h2⟩ := grd_some h
  simp only [Bool.and_eq_true] at h1 h2
  have hl := lenOk_lt h1.1
  have hc := cnt_le l q
  refine ⟨l.length + 1, (rtrim_rn _ _ _).trans (Eq.trans ?_ (congrArg some h2))⟩
  unfold rtrim_P trimS
  have := loopN_for (step := rtrim_L1) l.length (fun i => (l, q, (l.take i).drop (cnt l q - 1), (i : Int), ())) (res := some ((l.drop (cnt l q - 1), ()), (), (), ())) (fun i hi rec => ?_) (fun rec => ?_) (l.length + 1) (by omega)
  · rw [List.take_zero, List.drop_nil] at this
    exact this
  · simp only [rtrim_L1, Int.toNat_natCast]
    have e1 : IntKind.i64.wrap ((i : Int) + 1) = ((i + 1 : Nat) : Int) := (wrapI (by omega) (by omega)).trans (by omega)
    rw [e1, Int.toNat_natCast, br_dt (by omega)]
    have hkeep : cnt l q ≤ i + 1 → br (decide ((0 : Int) ≤ i)) (br (decide ((i : Int) < l.length)) (br (decide ((((l.take i).drop (cnt l q - 1)).length + [((l.getD i (0, 0)).1, (l.getD i (0, 0)).2)].length) * 16 ≤ LIM))
        (br (decide (((l.take i).drop (cnt l q - 1)).length + [((l.getD i (0, 0)).1, (l.getD i (0, 0)).2)].length ≤ LIM)) (rec (l, q, cat ((l.take i).drop (cnt l q - 1)) [((l.getD i (0, 0)).1, (l.getD i (0, 0)).2)], ((i + 1 : Nat) : Int), ())) none) none) none) none
        = rec (l, q, (l.take (i + 1)).drop (cnt l q - 1), ((i + 1 : Nat) : Int), ()) := by
      intro hle
      rw [br_dt (by omega), br_dt (by omega), br_dt (lim_mul (by simp; omega) (by decide)), br_dt (lim_le (by simp; omega)), take_snoc l i (0, 0) hi, List.drop_append_of_le_length (by simp; omega)]
      rfl
    by_cases hn : i + 1 < l.length
    · rw [br_dt (by omega), br_dt (by omega), br_dt (by omega)]
      have hiff := cnt_iff h1.2 q (i + 1) hn
      by_cases hv : (l.getD (i + 1) (0, 0)).1 ≤ q
      · have := hiff.1 hv
        have z1 : (l.take i).drop (cnt l q - 1) = [] := List.drop_eq_nil_of_le (by simp; omega)
        have z2 : (l.take (i + 1)).drop (cnt l q - 1) = [] := List.drop_eq_nil_of_le (by simp; omega)
        rw [br_dt hv, z1, z2]
      · have : ¬ i + 1 < cnt l q := fun h => hv (hiff.2 h)
        rw [br_df hv]
        exact hkeep (by omega)
    · rw [br_df (by omega)]
      exact hkeep (by omega)
  · simp only [rtrim_L1]
    rw [br_df (by omega), List.take_length]
theorem v_chain : Valid Try.prog n_chain c_chain := by
  refine valid_fn mixed hf_chain (by kernel_rfl) rfl (ts := tmpsOf f_chain.results.toList) (by kernel_rfl) (cfg := cfgW g_chain) tt_ok (Γok_cons v_within (Γok_cons v_digit Γok_nil)) chain_tm c_chain (by kernel_rfl) (fun _ _ _ _ => ⟨⟩) ?_
  rintro ⟨(ks : List Int), ⟨⟩⟩ r u h
  refine ⟨21, (chain_rn _ _).trans (Eq.trans ?_ h)⟩
  unfold chain_P
  refine loopN_meas (step := chain_L1) (fun x => 20 - x.2.2.2.1.toNat) (fun x => ∃ (out : List (Int × Int)) (n : Int) (i : Nat), i ≤ 20 ∧ 0 ≤ n ∧ n ≤ 5 * i ∧ out.length = i ∧ x = (ks, out, n, (i : Int), ()) ∧ out ++ chainFrom n ((ks.take 20).drop i) = chainS ks) (fun _ => some ((chainS ks, ()), (), ())) ?_ _ _ ⟨[], 0, 0, by omega, by omega, by omega, rfl, rfl, rfl⟩ (by simp only; omega)
  rintro x ⟨out, n, i, hi, hn, hn2, hlen, rfl, hr⟩ rec hrec
  simp only [chain_L1, Int.toNat_natCast]
  by_cases h : i < ks.length
  · rw [br_dt (by omega)]
    by_cases h20 : i < 20
    · have ht : (ks.take 20).getD i 0 = ks.getD i 0 := by
        rw [List.getD_eq_getElem?_getD, List.getElem?_take_of_lt h20, ← List.getD_eq_getElem?_getD]
      rw [drop_cons (ks.take 20) i 0 (by simp; omega), ht] at hr
      simp only [chainFrom] at hr
      rw [br_dt (by omega), br_dt (by omega), br_dt (by omega), bd_grd (by rfl)]
      simp only
      rw [br_dt (by omega), br_dt (by omega), bd_grd (by rfl)]
      simp only
      have hk := Int.emod_nonneg (ks.getD i 0) (show (5 : Int) ≠ 0 by decide)
      have hk2 := Int.emod_lt_of_pos (ks.getD i 0) (show (0 : Int) < 5 by decide)
      have hd := digitS_range (ks.getD i 0) 5 (n := 65536) (by decide)
      have e1 : IntKind.u64.wrap (IntKind.u64.wrap (n + 1) + IntKind.u64.wrap (ks.getD i 0 % 5)) = n + 1 + ks.getD i 0 % 5 := by
        rw [wrapU (n := n + 1) (by omega) (by omega), wrapU (n := ks.getD i 0 % 5) (by omega) (by omega), wrapU (by omega) (by omega)]
      rw [e1, wrapW (by omega) (by omega), br_dt (lim_mul (by simp; omega) (by decide)), br_dt (lim_le (by simp; omega)), wrapI (by omega) (by omega)]
      refine hrec _ ⟨_, _, i + 1, by omega, by omega, ?_, ?_, rfl, ?_⟩ (by simp only; omega)
      · omega
      · simp [cat, hlen]
      · rw [← hr]; simp [cat]
    · rw [br_df (by omega)]
      rw [List.drop_eq_nil_of_le (by simp; omega)] at hr
      simp only [chainFrom, List.append_nil] at hr
      rw [hr]
  · rw [br_df (by omega)]
    rw [List.drop_eq_nil_of_le (by simp; omega)] at hr
    simp only [chainFrom, List.append_nil] at hr
    rw [hr]
end Go.BB
