/- A symbolic machine for the model's code, and what it shows of this seat's functions. No conditions. -/
import Derived.Test.YtnofmeckcimodaaBGchain
import Derived.Test.YtnofmeckcimodaaBLChain
set_option linter.unusedSimpArgs false
set_option linter.unusedVariables false
namespace Go.BB
open Go Go.Proofs
set_option maxRecDepth 100000
theorem v_upto : Valid Try.prog n_upto c_upto := by
  refine valid_fn mixed hf_upto (by kernel_rfl) rfl (ts := tmpsOf f_upto.results.toList) (by kernel_rfl) (cfg := cfgW g_upto) tt_ok Γok_nil upto_tm c_upto (by kernel_rfl) (fun _ _ _ _ => ⟨⟩) ?_
  rintro ⟨(l : List (Int × Int)), (q : Int), ⟨⟩⟩ r u h
  obtain ⟨h1, h2⟩ := grd_some h
  simp only [Bool.and_eq_true] at h1 h2
  have hl := lenOk_lt h1.1
  refine ⟨l.length + 1, (upto_rn _ _ _).trans (Eq.trans ?_ (congrArg some h2))⟩
  unfold upto_P
  have hc := cnt_le l q
  refine loopN_meas (step := upto_L1) (fun x => x.2.2.2.1.toNat - x.2.2.1.toNat) (fun x => ∃ (a b : Nat), a ≤ cnt l q ∧ cnt l q ≤ b ∧ b ≤ l.length ∧ x = (l, q, (a : Int), (b : Int), ())) (fun _ => some ((((cnt l q : Nat) : Int), ()), (), (), ())) ?_ _ _ ⟨0, l.length, by omega, by omega, by omega, rfl⟩ (by simp only; omega)
  rintro x ⟨a, b, ha, hb, hbl, rfl⟩ rec hrec
  simp only [upto_L1, sh1]
  by_cases h : a < b
  · have e : IntKind.i64.wrap ((a : Int) + b) / 2 = (((a + b) / 2 : Nat) : Int) := by rw [wrapI (by omega) (by omega)]; omega
    rw [br_dt (by omega), e, br_dt (by omega), br_dt (by omega), Int.toNat_natCast]
    have hi := cnt_iff h1.2 q ((a + b) / 2) (by omega)
    by_cases hv : (l.getD ((a + b) / 2) (0, 0)).1 ≤ q
    · rw [br_dt hv, wrapI (by omega) (by omega)]
      have := hi.1 hv
      exact hrec _ ⟨(a + b) / 2 + 1, b, by omega, hb, hbl, by simp⟩ (by simp only; omega)
    · rw [br_df hv]
      have : ¬ (a + b) / 2 < cnt l q := fun h => hv (hi.2 h)
      exact hrec _ ⟨a, (a + b) / 2, ha, by omega, by omega, rfl⟩ (by simp only; omega)
  · rw [br_df (by omega), show a = cnt l q by omega]
theorem v_chainAt : Valid Try.prog n_chainAt c_chainAt := by
  refine valid_fn mixed hf_chainAt (by kernel_rfl) rfl (ts := tmpsOf f_chainAt.results.toList) (by kernel_rfl) (cfg := cfgW g_chainAt) tt_ok (Γok_cons v_upto Γok_nil) chainAt_tm c_chainAt (by kernel_rfl) (fun _ _ _ _ => ⟨⟩) ?_
  rintro ⟨(l : List (Int × Int)), (q : Int), ⟨⟩⟩ r u h
  obtain ⟨h1, h2⟩ := grd_some h
  simp only at h1 h2
  have hl := lenOk_lt (Bool.and_eq_true _ _ ▸ h1 : _ ∧ _).1
  have hc := cnt_le l q
  refine ⟨0, (chainAt_rn _ _ _).trans (Eq.trans ?_ (congrArg some h2))⟩
  unfold chainAt_P atV
  rw [bd_grd h1]
  simp only
  by_cases h0 : cnt l q = 0
  · rw [br_t (by simp [h0]), if_pos h0]; rfl
  · have e1 : IntKind.i64.wrap ((cnt l q : Int) - 1) = ((cnt l q - 1 : Nat) : Int) := (wrapI (by omega) (by omega)).trans (by omega)
    rw [br_f (by simpa using h0), e1, br_dt (by omega), br_dt (by omega), if_neg h0, Int.toNat_natCast]; rfl
theorem v_rchainAt : Valid Try.prog n_rchainAt c_rchainAt := by
  refine valid_fn mixed hf_rchainAt (by kernel_rfl) rfl (ts := tmpsOf f_rchainAt.results.toList) (by kernel_rfl) (cfg := cfgW g_rchainAt) tt_ok Γok_nil rchainAt_tm c_rchainAt (by kernel_rfl) (fun _ _ _ _ => ⟨⟩) ?_
  rintro ⟨(l : List (Int × Int)), (q : Int), ⟨⟩⟩ r u h
  obtain ⟨h1, h2⟩ := grd_some h
  simp only at h1 h2
  have hl := lenOk_lt h1
  have hc := cnt_le l q
  refine ⟨cnt l q + 1, (rchainAt_rn _ _ _).trans (Eq.trans ?_ (congrArg some h2))⟩
  unfold rchainAt_P
  refine loopN_for (step := rchainAt_L1) (cnt l q) (fun i => (l, q, (if i = 0 then 0 else (l.getD (i - 1) (0, 0)).2), (i : Int), ())) (fun i hi rec => ?_) (fun rec => ?_) _ (by omega)
  · simp only [rchainAt_L1, Int.toNat_natCast]
    rw [br_dt (by omega), br_dt (by omega), br_dt (by omega), br_dt (cnt_lt l q i hi), br_dt (by omega), br_dt (by omega), wrapI (by omega) (by omega)]
    simp
  · simp only [rchainAt_L1, Int.toNat_natCast]
    by_cases h : cnt l q < l.length
    · rw [br_dt (by omega), br_dt (by omega), br_dt (by omega), br_df (cnt_stop l q h)]; rfl
    · rw [br_df (by omega)]; rfl
theorem newest_ok (l : List (Int × Int)) (hl : l.length < 1000000) : newest_P 0 l = some ((newS l, ()), (), ()) := by
  unfold newest_P newS
  by_cases h0 : l.length = 0
  · rw [br_t (by simp [h0]), if_pos h0]
  · have e1 : IntKind.i64.wrap ((l.length : Int) - 1) = ((l.length - 1 : Nat) : Int) := (wrapI (by omega) (by omega)).trans (by omega)
    rw [br_f (by simpa using h0), e1, br_dt (by omega), br_dt (by omega), if_neg h0, Int.toNat_natCast]
theorem v_newest : Valid Try.prog n_newest c_newest := by
  refine valid_fn mixed hf_newest (by kernel_rfl) rfl (ts := tmpsOf f_newest.results.toList) (by kernel_rfl) (cfg := cfgW g_newest) tt_ok Γok_nil newest_tm c_newest (by kernel_rfl) (fun _ _ _ _ => ⟨⟩) ?_
  rintro ⟨(l : List (Int × Int)), ⟨⟩⟩ r u h
  obtain ⟨h1, h2⟩ := grd_some h
  simp only at h1 h2
  exact ⟨0, (newest_rn _ _).trans ((newest_ok l (lenOk_lt h1)).trans (congrArg some h2))⟩
theorem v_rnewest : Valid Try.prog n_rnewest c_rnewest := by
  refine valid_fn mixed hf_rnewest (by kernel_rfl) rfl (ts := tmpsOf f_rnewest.results.toList) (by kernel_rfl) (cfg := cfgW g_rnewest) tt_ok Γok_nil rnewest_tm c_rnewest (by kernel_rfl) (fun _ _ _ _ => ⟨⟩) ?_
  rintro ⟨(l : List (Int × Int)), ⟨⟩⟩ r u h
  obtain ⟨h1, h2⟩ := grd_some h
  simp only at h1 h2
  exact ⟨0, (rnewest_rn _ _).trans ((newest_ok l (lenOk_lt h1)).trans (congrArg some h2))⟩
theorem v_rchainAdd : Valid Try.prog n_rchainAdd c_rchainAdd := by
  refine valid_fn mixed hf_rchainAdd (by kernel_rfl) rfl (ts := tmpsOf f_rchainAdd.results.toList) (by kernel_rfl) (cfg := cfgW g_rchainAdd) tt_ok (Γok_cons v_rnewest Γok_nil) rchainAdd_tm c_rchainAdd (by kernel_rfl) (fun _ _ _ _ => ⟨⟩) ?_
  rintro ⟨(l : List (Int × Int)), (v : Int × Int), ⟨⟩⟩ r u h
  obtain ⟨h1, h2⟩ := grd_some h
  simp only at h1 h2
  have hl := lenOk_lt h1
  refine ⟨0, (rchainAdd_rn _ _ _).trans (Eq.trans ?_ (congrArg some h2))⟩
  unfold rchainAdd_P addS
  rw [bd_grd h1]
  simp only
  by_cases hv : v.1 ≤ newS l
  · rw [br_dt hv, if_pos hv]; rfl
  · rw [br_df hv, if_neg hv, br_dt (lim_mul (by omega) (by decide)), br_dt (lim_le (by omega)), br_dt (lim_mul (by simp; omega) (by decide)), br_dt (lim_le (by simp; omega))]; rfl
theorem v_trim : Valid Try.prog n_trim c_trim := by
  refine valid_fn mixed hf_trim (by kernel_rfl) rfl (ts := tmpsOf f_trim.results.toList) (by kernel_rfl) (cfg := cfgW g_trim) tt_ok (Γok_cons v_upto (Γok_cons v_cloneVersions Γok_nil)) trim_tm c_trim (by kernel_rfl) (fun _ _ _ _ => ⟨⟩) ?_
  rintro ⟨(l : List (Int × Int)), (q : Int), ⟨⟩⟩ r u h
  obtain ⟨h1, h2⟩ := grd_some h
  simp only at h1 h2
  have hl := lenOk_lt (Bool.and_eq_true _ _ ▸ h1 : _ ∧ _).1
  have hc := cnt_le l q
  refine ⟨0, (trim_rn _ _ _).trans (Eq.trans ?_ (congrArg some h2))⟩
  unfold trim_P trimS
  rw [bd_grd h1]
  have e1 : maxI (IntKind.i64.wrap ((cnt l q : Int) - 1)) 0 = ((cnt l q - 1 : Nat) : Int) := by rw [wrapI (by omega) (by omega), maxI_eq]; omega
  simp only [e1, Int.toNat_natCast]
  have e2 : List.take (l.length - (cnt l q - 1)) (List.drop (cnt l q - 1) l) = List.drop (cnt l q - 1) l := List.take_of_length_le (by simp)
  rw [br_dt (by omega), br_dt (by omega), e2, bd_grd (by simp; omega)]
  rfl
theorem v_rtrim : Valid Try.prog n_rtrim c_rtrim := by
  refine valid_fn mixed hf_rtrim (by kernel_rfl) rfl (ts := tmpsOf f_rtrim.results.toList) (by kernel_rfl) (cfg := cfgW g_rtrim) tt_ok Γok_nil rtrim_tm c_rtrim (by kernel_rfl) (fun _ _ _ _ => ⟨⟩) ?_
  rintro ⟨(l : List (Int × Int)), (q : Int), ⟨⟩⟩ r u h
  obtain ⟨h1, h2⟩ := grd_some h
  simp only [Bool.and_eq_true] at h1 h2
  have hl := lenOk_lt h1.1
  have hc := cnt_le l q
  refine ⟨l.length + 1, (rtrim_rn _ _ _).trans (Eq.trans ?_ (congrArg some h2))⟩
  unfold rtrim_P trimS
  have := loopN_for (step := rtrim_L1) l.length (fun i => (l, q, (l.take i).drop (cnt l q - 1), (i : Int), ())) (res := some ((l.drop (cnt l q - 1), ()), (), (), ())) (fun i hi rec => ?_) (fun rec => ?_) (l.length + 1) (by omega)
  · rw [List.take_zero, List.drop_nil] at this
    exact this
  · simp only [rtrim_L1, Int.toNat_natCast]
    have e1 : IntKind.i64.wrap ((i : Int) + 1) = ((i + 1 : Nat) : Int) := (wrapI (by omega) (by omega)).trans (by omega)
    rw [e1, Int.toNat_natCast, br_dt (by omega)]
    have hkeep : cnt l q ≤ i + 1 → br (decide ((0 : Int) ≤ i)) (br (decide ((i : Int) < l.length)) (br (decide ((((l.take i).drop (cnt l q - 1)).length + [((l.getD i (0, 0)).1, (l.getD i (0, 0)).2)].length) * 16 ≤ LIM))
        (br (decide (((l.take i).drop (cnt l q - 1)).length + [((l.getD i (0, 0)).1, (l.getD i (0, 0)).2)].length ≤ LIM)) (rec (l, q, cat ((l.take i).drop (cnt l q - 1)) [((l.getD i (0, 0)).1, (l.getD i (0, 0)).2)], ((i + 1 : Nat) : Int), ())) none) none) none) none
        = rec (l, q, (l.take (i + 1)).drop (cnt l q - 1), ((i + 1 : Nat) : Int), ()) := by
      intro hle
      rw [br_dt (by omega), br_dt (by omega), br_dt (lim_mul (by simp; omega) (by decide)), br_dt (lim_le (by simp; omega)), take_snoc l i (0, 0) hi, List.drop_append_of_le_length (by simp; omega)]
      rfl
    by_cases hn : i + 1 < l.length
    · rw [br_dt (by omega), br_dt (by omega), br_dt (by omega)]
      have hiff := cnt_iff h1.2 q (i + 1) hn
      by_cases hv : (l.getD (i + 1) (0, 0)).1 ≤ q
      · have := hiff.1 hv
        have z1 : (l.take i).drop (cnt l q - 1) = [] := List.drop_eq_nil_of_le (by simp; omega)
        have z2 : (l.take (i + 1)).drop (cnt l q - 1) = [] := List.drop_eq_nil_of_le (by simp; omega)
        rw [br_dt hv, z1, z2]
      · have : ¬ i + 1 < cnt l q := fun h => hv (hiff.2 h)
        rw [br_df hv]
        exact hkeep (by omega)
    · rw [br_df (by omega)]
      exact hkeep (by omega)
  · simp only [rtrim_L1]
    rw [br_df (by omega), List.take_length]
end Go.BB
