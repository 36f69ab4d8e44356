/- A symbolic machine for the model's code, and what it shows of this seat's functions. No conditions. -/
import Derived.Test.YtiaidfgioecdiaaGchainl
import Derived.Test.YtiaidfgioecdiaaVchain
import Derived.Test.YtiaidfgioecdiaaLawKit
set_option linter.unusedSimpArgs false
set_option linter.unusedVariables false
namespace Go.BB
open Go Go.Proofs
set_option maxRecDepth 100000
theorem allU_in {l : List (Int × Int)} (h : InR2 (.slice tVer) l) : allU l = true := by
  refine List.all_eq_true.2 fun v hv => ?_
  exact isU_in (h v hv).1
theorem v_awake16 : Valid Try.prog n_awake16 c_awake16 := by
  refine valid_fn mixed hf_awake16 (by kernel_rfl) rfl (ts := tmpsOf f_awake16.results.toList) (by kernel_rfl) (cfg := cfgW g_awake16) tt_ok (Γok_cons v_trim (Γok_cons v_chainAt (Γok_cons v_chainRight Γok_nil))) [] c_awake16 (by kernel_rfl) (fun _ _ _ _ => ⟨⟩) ?_
  rintro ⟨⟩ r u h
  exact ⟨0, awake16_rn.trans h⟩
theorem allU_chain (ks : List Int) : allU (chainS ks) = true := allU_of fun i hi => by
  have h1 := rf_ge (chainS_rf ks) i hi
  have h2 := chainS_le ks i hi
  omega
theorem allU_set {l : List (Int × Int)} (h : allU l = true) (i : Nat) {v : Int × Int} (hv : isU v.1 = true) : allU (l.set i v) = true := by
  refine List.all_eq_true.2 fun y hy => ?_
  rcases List.mem_or_eq_of_mem_set hy with h1 | rfl
  · exact List.all_eq_true.1 h y h1
  · exact hv
theorem lv_ChainTells : Valid Try.prog n_lChainTells ⟨valsOf [.slice tVer, .slice tI, tI, tU], [.val .bool], Fok (tys := [.slice tVer, .slice tI, tI, tU]) (fun (x : List (Int × Int) × List Int × Int × Int × Unit) => allU x.1 && isU x.2.2.2.1) ((), (), (), (), ())⟩ := by
  refine valid_law mixed hf_lChainTells (by kernel_rfl) rfl (ts := tmpsOf f_lChainTells.results.toList) (by kernel_rfl) (cfg := cfgW g_lChainTells) tt_ok
    (Γok_cons v_awake16 (Γok_cons v_lentVersions (Γok_cons v_chainRight (Γok_cons v_rchainRight (Γok_cons v_staysVersions (Γok_cons v_chain (Γok_cons v_within Γok_nil))))))) lChainTells_tm (by kernel_rfl) ?_
  rintro ⟨(l : List (Int × Int)), (ks : List Int), (w : Int), (n : Int), ⟨⟩⟩ h1
  simp only [Bool.and_eq_true] at h1
  refine ⟨0, (lChainTells_rn _ _ _ _ _).trans ?_⟩
  unfold lChainTells_P
  have hU := isU_of h1.2
  have hcl := chainS_len ks
  by_cases hl : (l.length : Int) > 40
  · rw [br_dt hl]; rfl
  · rw [br_df hl, brNT, bd_grd (by simp; omega)]
    simp only [take_drop0]
    have hlo : lenOk l = true := lenOk_of (by omega)
    have hco : lenOk (chainS ks) = true := lenOk_of (by omega)
    rw [bd_grd hlo, bd_grd (and_t hlo h1.1)]
    simp only
    rw [br_f (by simp), bd_grd (by rw [staysS_lent]; simp; omega)]
    simp only
    rw [br_f (by simp), bd_grd hco]
    simp only [chainS_rf]
    rw [br_f (by simp)]
    by_cases h0 : ((chainS ks).length : Int) > 0
    · rw [br_dt h0, bd_grd (by simp; omega)]
      simp only
      have hm := Int.emod_nonneg w (show ((chainS ks).length : Int) ≠ 0 by omega)
      have hm2 := Int.emod_lt_of_pos w (show (0 : Int) < (chainS ks).length by omega)
      have ht : isU (n.tmod 60) = true := by
        rw [Int.tmod_eq_emod_of_nonneg hU.1]
        exact isU_mk (by omega) (by omega)
      have hso : ∀ v, lenOk ((chainS ks).set (w % ((chainS ks).length : Int)).toNat v) = true := fun v => lenOk_of (by rw [List.length_set]; omega)
      rw [notf, br_dt (by omega), br_dt (by omega), bd_grd (hso _), bd_grd (and_t (hso _) (allU_set (allU_chain ks) _ ht))]
      simp
      rfl
    · rw [br_df h0, bd_grd hco, bd_grd (and_t hco (allU_chain ks))]
      simp
      rfl
theorem add_len (l : List (Int × Int)) (v : Int × Int) : (addS l v).1.length ≤ l.length + 1 := by
  unfold addS
  split <;> simp
theorem lv_ChainAsks : Valid Try.prog n_lChainAsks ⟨valsOf [.slice tI, tU, .bool, tVer], [.val .bool], Fok (tys := [.slice tI, tU, .bool, tVer]) (fun _ => true) ((), (), (), (), ())⟩ := by
  refine valid_law mixed hf_lChainAsks (by kernel_rfl) rfl (ts := tmpsOf f_lChainAsks.results.toList) (by kernel_rfl) (cfg := cfgW g_lChainAsks) tt_ok
    (Γok_cons v_awake16 (Γok_cons v_lentVersions (Γok_cons v_chain (Γok_cons v_chainAt (Γok_cons v_rchainAt (Γok_cons v_newest (Γok_cons v_rnewest (Γok_cons v_chainAdd (Γok_cons v_rchainAdd (Γok_cons v_trim (Γok_cons v_rtrim (Γok_cons v_sameVersions (Γok_cons v_staysVersions Γok_nil))))))))))))) lChainAsks_tm (by kernel_rfl) ?_
  rintro ⟨(ks : List Int), (q : Int), (near : Bool), (v : Int × Int), ⟨⟩⟩ _
  refine ⟨0, (lChainAsks_rn _ _ _ _ _).trans ?_⟩
  unfold lChainAsks_P
  have hcl := chainS_len ks
  have hrf := chainS_rf ks
  have hco : lenOk (chainS ks) = true := lenOk_of (by omega)
  have hadd : ∀ v, (addS (chainS ks) v).1.length < 1000000 := fun v => by have := add_len (chainS ks) v; omega
  have htr : ∀ m, (trimS (chainS ks) m).length < 1000000 := fun m => by have := trim_len (chainS ks) m; omega
  rw [brNT]
  cases near with
  | true =>
    rw [br_t rfl, notf, notf, bd_grd (by simp; omega)]
    simp only [take_drop0]
    rw [bd_grd (and_t hco hrf), bd_grd hco]
    simp only
    rw [br_f (by simp), bd_grd hco, bd_grd hco]
    simp only
    rw [br_f (by simp), bd_grd hco, bd_grd hco, bd_grd (and_t hco hrf)]
    simp only
    rw [br_t (by simp), bd_grd (decide_eq_true (hadd _)), br_t (sameS_self _), bd_grd (and_t hco hrf), bd_grd (decide_eq_true (htr _)), br_t (sameS_self _), bd_grd (by rw [staysS_lent]; simp; omega)]
    rfl
  | false =>
    rw [br_f rfl, bd_grd (by simp; omega)]
    simp only [take_drop0]
    rw [bd_grd (and_t hco hrf), bd_grd hco]
    simp only
    rw [br_f (by simp), bd_grd hco, bd_grd hco]
    simp only
    rw [br_f (by simp), bd_grd hco, bd_grd hco, bd_grd (and_t hco hrf)]
    simp only
    rw [br_t (by simp), bd_grd (decide_eq_true (hadd _)), br_t (sameS_self _), bd_grd (and_t hco hrf), bd_grd (decide_eq_true (htr _)), br_t (sameS_self _), bd_grd (by rw [staysS_lent]; simp; omega)]
    rfl
theorem tmod_pos {a b : Int} (h : 0 ≤ a) : a.tmod b = a % b := Int.tmod_eq_emod_of_nonneg h
theorem lv_ChainKeeps : Valid Try.prog n_lChainKeeps ⟨valsOf [.slice tI, tU, tU, tU], [.val .bool], Fok (tys := [.slice tI, tU, tU, tU]) (fun (x : List Int × Int × Int × Int × Unit) => isU x.2.1 && (isU x.2.2.1 && isU x.2.2.2.1)) ((), (), (), (), ())⟩ := by
  refine valid_law mixed hf_lChainKeeps (by kernel_rfl) rfl (ts := tmpsOf f_lChainKeeps.results.toList) (by kernel_rfl) (cfg := cfgW g_lChainKeeps) tt_ok
    (Γok_cons v_awake16 (Γok_cons v_chain (Γok_cons v_trim (Γok_cons v_chainRight (Γok_cons v_chainAt (Γok_cons v_newest (Γok_cons v_sameVersions Γok_nil))))))) lChainKeeps_tm (by kernel_rfl) ?_
  rintro ⟨(ks : List Int), (m0 : Int), (q0 : Int), (l0 : Int), ⟨⟩⟩ h1
  simp only [Bool.and_eq_true] at h1
  refine ⟨21, (lChainKeeps_rn _ _ _ _ _).trans ?_⟩
  unfold lChainKeeps_P
  have hm := isU_of h1.1
  have hq := isU_of h1.2.1
  have hl := isU_of h1.2.2
  have hcl := chainS_len ks
  have hrf := chainS_rf ks
  have hco : lenOk (chainS ks) = true := lenOk_of (by omega)
  rw [tmod_pos hm.1, tmod_pos hq.1, tmod_pos hl.1]
  generalize hM : m0 % 120 = m
  have hmm : 0 ≤ m ∧ m < 120 := by omega
  have e1 : IntKind.u64.wrap (m + q0 % 120) = m + q0 % 120 := wrapU (by omega) (by omega)
  have e2 : IntKind.u64.wrap (m + 1) = m + 1 := wrapU (by omega) (by omega)
  rw [e1, e2, brNT, notf, notf, bd_grd (and_t hco hrf)]
  simp only
  have htl := trim_len (chainS ks) m
  have hto : lenOk (trimS (chainS ks) m) = true := lenOk_of (by omega)
  have htr := rf_trim hrf m
  rw [bd_grd hto]
  simp only [htr]
  rw [br_f (by simp), bd_grd (and_t hto rfl), bd_grd (and_t hco hrf)]
  simp only [atV_trim (chainS ks) (show m ≤ m + q0 % 120 by omega)]
  rw [br_f (by simp), bd_grd hto, bd_grd hco]
  simp only [newS_trim]
  rw [br_f (by simp), br_t (by simp; omega), bd_grd (and_t hto rfl)]
  simp only [trim_trim (chainS ks) (show l0 % (m + 1) ≤ m by have := Int.emod_lt_of_pos l0 (show 0 < m + 1 by omega); omega)]
  rw [bd_grd (by simp; omega)]
  simp only [sameS_self]
  rw [br_f (by simp)]
  have hcnt : cnt (trimS (chainS ks) m) m ≤ 1 := by
    unfold trimS
    rw [cnt_drop _ m _ (by omega)]
    omega
  refine loopN_for (step := lChainKeeps_L1) (trimS (chainS ks) m).length (fun i => (m, chainS ks, trimS (chainS ks) m, ((min i (cnt (trimS (chainS ks) m) m) : Nat) : Int), (i : Int), ())) (fun i hi rec => ?_) (fun rec => ?_) 21 (by omega)
  · simp only [lChainKeeps_L1, Int.toNat_natCast]
    rw [br_dt (by omega), br_dt (by omega), br_dt (by omega), wrapI (by omega) (by omega), wrapI (by omega) (by omega)]
    have hiff := cnt_iff htr m i hi
    by_cases hv : ((trimS (chainS ks) m).getD i (0, 0)).1 ≤ m
    · have := hiff.1 hv
      rw [br_dt hv]
      congr 1
      rw [show min (i + 1) (cnt (trimS (chainS ks) m) m) = min i (cnt (trimS (chainS ks) m) m) + 1 by omega]
      simp
    · have : ¬ i < cnt (trimS (chainS ks) m) m := fun h => hv (hiff.2 h)
      rw [br_df hv]
      congr 1
      rw [show min (i + 1) (cnt (trimS (chainS ks) m) m) = min i (cnt (trimS (chainS ks) m) m) by omega]
      simp
  · simp only [lChainKeeps_L1]
    rw [br_df (by omega), br_dt (by omega), decide_eq_true (by omega)]
    rfl
theorem lv_ChainGrows : Valid Try.prog n_lChainGrows ⟨valsOf [.slice tI, tU, tW, tU], [.val .bool], Fok (tys := [.slice tI, tU, tW, tU]) (fun (x : List Int × Int × Int × Int × Unit) => isU x.2.1 && isU x.2.2.2.1) ((), (), (), (), ())⟩ := by
  refine valid_law mixed hf_lChainGrows (by kernel_rfl) rfl (ts := tmpsOf f_lChainGrows.results.toList) (by kernel_rfl) (cfg := cfgW g_lChainGrows) tt_ok
    (Γok_cons v_awake16 (Γok_cons v_chain (Γok_cons v_newest (Γok_cons v_chainAdd (Γok_cons v_chainRight (Γok_cons v_chainAt Γok_nil)))))) lChainGrows_tm (by kernel_rfl) ?_
  rintro ⟨(ks : List Int), (b : Int), (w : Int), (q0 : Int), ⟨⟩⟩ h1
  simp only [Bool.and_eq_true] at h1
  refine ⟨0, (lChainGrows_rn _ _ _ _ _).trans ?_⟩
  unfold lChainGrows_P
  have hb := isU_of h1.1
  have hq := isU_of h1.2
  have hcl := chainS_len ks
  have hrf := chainS_rf ks
  have hco : lenOk (chainS ks) = true := lenOk_of (by omega)
  have hn := newS_chain ks
  rw [brNT, bd_grd hco]
  simp only
  rw [tmod_pos hb.1, tmod_pos hb.1, tmod_pos hq.1]
  generalize hN : newS (chainS ks) = n at hn ⊢
  have e1 : IntKind.u64.wrap (n + 1) = n + 1 := wrapU (by omega) (by omega)
  simp only [e1]
  have e2 : IntKind.u64.wrap (n + 1 + b % 9) = n + 1 + b % 9 := wrapU (by omega) (by omega)
  simp only [e2]
  have hlt := Int.emod_lt_of_pos b (show 0 < n + 1 by omega)
  rw [br_t (by simp; omega), bd_grd hco]
  have a1 : addS (chainS ks) (b % (n + 1), w) = ([], 1) := by
    unfold addS
    rw [hN, if_pos (by simp only; omega)]
  have a2 : addS (chainS ks) (n + 1 + b % 9, w) = (chainS ks ++ [(n + 1 + b % 9, w)], 0) := by
    unfold addS
    rw [hN, if_neg (by simp only; omega)]
  simp only [a1, a2]
  rw [notf, bd_grd hco]
  simp only
  have hlt2 : newS (chainS ks) < (n + 1 + b % 9, w).1 := by rw [hN]; simp only; omega
  have hmo : lenOk (chainS ks ++ [(n + 1 + b % 9, w)]) = true := lenOk_of (by simp; omega)
  have hmr := rf_add hrf hlt2
  rw [br_f (by simp), br_f (by simp), bd_grd hmo]
  simp only [hmr]
  have e3 : IntKind.i64.wrap (((chainS ks).length : Int) + 1) = ((chainS ks).length : Int) + 1 := wrapI (by omega) (by omega)
  rw [br_f (by simp), br_f (by rw [e3]; simp), bd_grd hmo]
  simp only [newS_snoc]
  rw [br_f (by simp), notf]
  by_cases hs : q0 % 140 ≥ n + 1 + b % 9
  · rw [br_dt hs, bd_grd (and_t hmo rfl)]
    simp only [atV_snoc hrf hlt2]
    rw [if_pos (by omega)]
    simp
    rfl
  · rw [br_df hs, bd_grd (and_t hmo rfl), bd_grd (and_t hco hrf)]
    simp only [atV_snoc hrf hlt2]
    rw [if_neg (by omega)]
    simp
    rfl
theorem rf_take : ∀ {l : List (Int × Int)} {a : Int} (k : Nat), rightFrom a l = true → rightFrom a (l.take k) = true
  | [], _, k, _ => by simp [rightFrom]
  | v :: l, a, 0, h => rfl
  | v :: l, a, k + 1, h => by
    rw [rf_cons] at h
    rw [List.take_succ_cons, rf_cons]
    exact ⟨h.1, rf_take k h.2⟩
theorem newS_take_lt {l : List (Int × Int)} (hr : rightFrom 0 l = true) (i : Nat) (h : i < l.length) : newS (l.take i) < (l.getD i (0, 0)).1 := by
  unfold newS
  have hl : (l.take i).length = i := by simp; omega
  rw [hl]
  split
  · exact rf_ge hr i h
  · have : (l.take i).getD (i - 1) (0, 0) = l.getD (i - 1) (0, 0) := by
      rw [List.getD_eq_getElem?_getD, List.getElem?_take_of_lt (by omega), ← List.getD_eq_getElem?_getD]
    rw [this]
    exact rf_lt hr (i - 1) i (by omega) h
theorem getD_map1 (l : List (Int × Int)) (i : Nat) : (l.map (·.1)).getD i 0 = (l.getD i (0, 0)).1 := by
  simp only [List.getD_eq_getElem?_getD, List.getElem?_map]
  cases l[i]? <;> rfl
theorem getD_map2 (l : List (Int × Int)) (i : Nat) : (l.map (·.2)).getD i 0 = (l.getD i (0, 0)).2 := by
  simp only [List.getD_eq_getElem?_getD, List.getElem?_map]
  cases l[i]? <;> rfl
theorem lv_ChainMany : Valid Try.prog n_lChainMany ⟨valsOf [.slice tI, tU], [.val .bool], Fok (tys := [.slice tI, tU]) (fun (x : List Int × Int × Unit) => isU x.2.1) ((), (), ())⟩ := by
  refine valid_law mixed hf_lChainMany (by kernel_rfl) rfl (ts := tmpsOf f_lChainMany.results.toList) (by kernel_rfl) (cfg := cfgW g_lChainMany) tt_ok
    (Γok_cons v_awake16 (Γok_cons v_within (Γok_cons v_digit (Γok_cons v_chainAdd (Γok_cons v_trim (Γok_cons v_chainAt (Γok_cons v_newest Γok_nil))))))) lChainMany_tm (by kernel_rfl) ?_
  rintro ⟨(ks : List Int), (q : Int), ⟨⟩⟩ h1
  refine ⟨32, (lChainMany_rn _ _ _).trans ?_⟩
  unfold lChainMany_P
  have hq := isU_of h1
  by_cases hl : (ks.length : Int) > 30
  · rw [br_dt hl]; rfl
  rw [br_df hl, brNT]
  refine loopN_meas (step := lChainMany_L2 32) (fun x => ks.length - x.2.2.2.2.2.2.2.1.toNat) (fun x => ∃ (full : List (Int × Int)) (k : Nat) (mark : Int), full.length ≤ ks.length ∧ rightFrom 0 full = true ∧ (k = 0 ∨ k < cnt full mark) ∧ newS full ≤ 4 * full.length ∧ 0 ≤ mark ∧ mark ≤ newS full ∧
      x = (ks, q, full.drop k, full.map (·.1), full.map (·.2), newS full, mark, (full.length : Int), ())) (fun _ => some ((true, ()), (), (), ())) ?_ 32 _ ⟨[], 0, 0, Nat.zero_le _, rfl, .inl rfl, by decide, by omega, by decide, rfl⟩ (by simp only; omega)
  rintro x ⟨full, k, mark, hf, hrf, hk, hn, hm0, hm, rfl⟩ rec hrec
  have hn0 := newS_nonneg hrf
  simp only [lChainMany_L2, Int.toNat_natCast]
  have hdo : lenOk (full.drop k) = true := lenOk_of (by simp; omega)
  by_cases h : full.length < ks.length
  · generalize hkk : ks.getD full.length 0 = kk
    have r1 := Int.emod_nonneg kk (show (4 : Int) ≠ 0 by decide)
    have r2 := Int.emod_lt_of_pos kk (show (0 : Int) < 4 by decide)
    have d1 := digitS_range kk 4 (n := 65536) (by decide)
    have d2 := digitS_range kk 262144 (n := 3) (by decide)
    have d3 := digitS_range kk 786432 (n := 6) (by decide)
    rw [br_dt (by omega), br_dt (by omega), br_dt (by omega), bd_grd (by rfl)]
    simp only
    rw [br_dt (by omega), br_dt (by omega), bd_grd (by rfl)]
    simp only
    have e1 : IntKind.u64.wrap (IntKind.u64.wrap (newS full + 1) + IntKind.u64.wrap (kk % 4)) = newS full + 1 + kk % 4 := by
      rw [wrapU (n := newS full + 1) (by omega) (by omega), wrapU (n := kk % 4) (by omega) (by omega), wrapU (by omega) (by omega)]
    have e2 : IntKind.u16.wrap (digitS kk 4 65536) = digitS kk 4 65536 := wrapW (by omega) (by omega)
    simp only [e1, e2]
    generalize hv : (newS full + 1 + kk % 4, digitS kk 4 65536) = v
    have hv1 : v.1 = newS full + 1 + kk % 4 := by rw [← hv]
    have hv2 : v.2 = digitS kk 4 65536 := by rw [← hv]
    have hkl : k < full.length ∨ k = 0 := by
      rcases hk with h | h
      · exact .inr h
      · have := cnt_le full mark; exact .inl (by omega)
    have ha : addS (full.drop k) v = (full.drop k ++ [v], 0) := by
      unfold addS
      rw [newS_drop _ _ hkl, if_neg (by omega)]
    rw [bd_grd hdo]
    simp only [ha]
    have hlt : newS full < v.1 := by omega
    have hrf' := rf_add hrf hlt
    have happ : full.drop k ++ [v] = (full ++ [v]).drop k := by rw [List.drop_append_of_le_length (by omega)]
    have hs : full.map (·.1) ++ [newS full + 1 + kk % 4] = (full ++ [v]).map (·.1) := by simp [hv1]
    have hvs : full.map (·.2) ++ [digitS kk 4 65536] = (full ++ [v]).map (·.2) := by simp [hv2]
    have hno : newS (full ++ [v]) = newS full + 1 + kk % 4 := by rw [newS_snoc, hv1]
    rw [br_f (by simp), br_dt (lim_mul (by simp; omega) (by decide)), br_dt (lim_le (by simp; omega)), br_dt (lim_mul (by simp; omega) (by decide)), br_dt (lim_le (by simp; omega)), br_dt (by omega), br_dt (by omega), bd_grd (by rfl)]
    simp only [cat]
    rw [happ, hs, hvs, wrapI (by omega) (by omega), ← hno]
    have hmono : ∀ m, cnt full m ≤ cnt (full ++ [v]) m := fun m => by
      rw [cnt_snoc]
      have := cnt_le full m
      split
      · split <;> omega
      · omega
    by_cases hd : digitS kk 262144 3 = 0
    · rw [br_t (by rw [hd]; rfl), br_dt (by omega), br_dt (by omega), bd_grd (by rfl)]
      simp only
      have e3 : IntKind.u64.wrap (digitS kk 786432 6) = digitS kk 786432 6 := wrapU (by omega) (by omega)
      rw [e3, minI_eq, maxI_eq]
      have e4 : IntKind.u64.wrap (newS (full ++ [v]) - min (newS (full ++ [v])) (digitS kk 786432 6)) = newS (full ++ [v]) - min (newS (full ++ [v])) (digitS kk 786432 6) := by
        refine wrapU ?_ ?_ <;> rw [hno] <;> omega
      rw [e4]
      generalize hM : max mark (newS (full ++ [v]) - min (newS (full ++ [v])) (digitS kk 786432 6)) = M
      have hM1 : mark ≤ M := by omega
      have hM2 : M ≤ newS (full ++ [v]) := by omega
      have hdo' : lenOk ((full ++ [v]).drop k) = true := lenOk_of (by simp; omega)
      rw [bd_grd (and_t hdo' (rf_drop k hrf'))]
      have hk' : k = 0 ∨ k < cnt (full ++ [v]) M := by
        rcases hk with h | h
        · exact .inl h
        · have := hmono mark
          have := cnt_mono (full ++ [v]) hM1
          exact .inr (by omega)
      have htr : trimS ((full ++ [v]).drop k) M = (full ++ [v]).drop (k + (cnt (full ++ [v]) M - k - 1)) := by
        unfold trimS
        rw [cnt_drop _ _ _ (by omega), List.drop_drop]
      simp only [htr]
      refine hrec _ ⟨full ++ [v], k + (cnt (full ++ [v]) M - k - 1), M, by simp; omega, hrf', ?_, ?_, by omega, hM2, ?_⟩ ?_
      · omega
      · rw [hno]; simp; omega
      · simp
      · simp only [Int.toNat_natCast]; omega
    · rw [br_f (by simpa using hd)]
      refine hrec _ ⟨full ++ [v], k, mark, by simp; omega, hrf', ?_, ?_, hm0, ?_, ?_⟩ ?_
      · have := hmono mark; omega
      · rw [hno]; simp; omega
      · rw [hno]; omega
      · simp
      · simp only [Int.toNat_natCast]; omega
  · rw [br_df (by omega), notf, tmod_pos hq.1]
    have e1 : IntKind.u64.wrap (mark + q % 140) = mark + q % 140 := wrapU (by omega) (by omega)
    rw [e1]
    have hr2 := Int.emod_nonneg q (show (140 : Int) ≠ 0 by decide)
    refine loopN_for (step := lChainMany_L1) full.length (fun i => (ks, mark + q % 140, full.drop k, full.map (·.1), full.map (·.2), newS full, atV (full.take i) (mark + q % 140), (i : Int), ())) (fun i hi rec => ?_) (fun rec => ?_) 32 (by omega)
    · simp only [lChainMany_L1, Int.toNat_natCast, List.length_map, getD_map1, getD_map2]
      rw [br_dt (by omega), br_dt (by omega), br_dt (by omega), wrapI (by omega) (by omega), take_snoc full i (0, 0) hi, atV_snoc (rf_take i hrf) (newS_take_lt hrf i hi)]
      by_cases hv : (full.getD i (0, 0)).1 ≤ mark + q % 140
      · rw [br_dt hv, br_dt (by omega), br_dt (by omega), if_pos hv]; simp
      · rw [br_df hv, if_neg hv]; simp
    · simp only [lChainMany_L1, List.length_map]
      rw [br_df (by omega), List.take_length, bd_grd (and_t hdo (rf_drop k hrf)), bd_grd hdo]
      have hc : k < cnt full (mark + q % 140) ∨ k = 0 := by
        have := cnt_mono full (show mark ≤ mark + q % 140 by omega)
        omega
      simp only [atV_drop _ _ _ hc]
      have hkl : k < full.length ∨ k = 0 := by
        have := cnt_le full mark
        omega
      rw [newS_drop _ _ hkl, br_t (by simp), br_t (by simp), decide_eq_true (by simp; omega)]
end Go.BB
