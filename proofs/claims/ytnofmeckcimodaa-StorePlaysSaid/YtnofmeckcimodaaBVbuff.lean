/- A symbolic machine for the model's code, and what it shows of this seat's functions. No conditions. -/
import Derived.Test.YtnofmeckcimodaaBGbuff
import Derived.Test.YtnofmeckcimodaaBLChain
import Derived.Test.YtnofmeckcimodaaBLStore
set_option linter.unusedSimpArgs false
set_option linter.unusedVariables false
namespace Go.BB
open Go Go.Proofs
set_option maxRecDepth 100000
theorem mk_eta {α β : Type} (p : α × β) : (p.1, p.2) = p := rfl
theorem notf' {α : Type} {x y : α} : br (!false) x y = x := rfl
theorem v_isNaN : Valid Try.prog n_isNaN c_isNaN := by
  refine valid_fn mixed hf_isNaN (by kernel_rfl) rfl (ts := tmpsOf f_isNaN.results.toList) (by kernel_rfl) (cfg := cfgW g_isNaN) tt_ok Γok_nil isNaN_tm c_isNaN (by kernel_rfl) (fun _ _ _ _ => ⟨⟩) ?_
  rintro ⟨(n : Int), ⟨⟩⟩ r u h
  refine ⟨0, (isNaN_rn _ _).trans (Eq.trans ?_ h)⟩
  simp [isNaN_P]; rfl
theorem v_compare : Valid Try.prog n_compare c_compare := by
  refine valid_fn mixed hf_compare (by kernel_rfl) rfl (ts := tmpsOf f_compare.results.toList) (by kernel_rfl) (cfg := cfgW g_compare) tt_ok (Γok_cons v_isNaN Γok_nil) compare_tm c_compare (by kernel_rfl) (fun _ _ _ _ => ⟨⟩) ?_
  rintro ⟨(a : Int), (b : Int), ⟨⟩⟩ r u h
  refine ⟨0, (compare_rn _ _ _).trans (Eq.trans ?_ h)⟩
  show compare_P 0 a b = some ((cmpS a b, ()), ((), (), ()))
  unfold compare_P cmpS
  by_cases h1 : a < b
  · rw [br_dt h1, if_pos h1]
  · rw [br_df h1, if_neg h1]
    by_cases h2 : b < a
    · rw [br_dt (by omega), if_pos h2]
    · rw [br_df (by omega), if_neg h2]
theorem v_or : Valid Try.prog n_or c_or := by
  refine valid_fn mixed hf_or (by kernel_rfl) rfl (ts := tmpsOf f_or.results.toList) (by kernel_rfl) (cfg := cfgW g_or) tt_ok Γok_nil or_tm c_or (by kernel_rfl) (fun _ _ _ _ => ⟨⟩) ?_
  rintro ⟨(l : List Int), ⟨⟩⟩ r u h
  obtain ⟨h1, h2⟩ := grd_some h
  simp only at h1 h2
  have hl := lenOk_lt h1
  refine ⟨l.length + 1, (or_rn _ _).trans (Eq.trans ?_ (congrArg some h2))⟩
  unfold or_P
  refine loopN_meas (step := or_L1) (fun x => l.length - x.2.2.2.1.toNat) (fun x => ∃ (i : Nat), i ≤ l.length ∧ x = (0, l, (l.length : Int), (i : Int), ()) ∧ orS (l.drop i) = orS l) (fun _ => some ((orS l, ()), (), ())) ?_ _ _ ⟨0, by omega, rfl, by simp⟩ (by simp only; omega)
  rintro x ⟨i, hi, rfl, hr⟩ rec hrec
  simp only [or_L1, Int.toNat_natCast]
  by_cases h : i < l.length
  · rw [drop_cons l i 0 h] at hr
    simp only [orS] at hr
    rw [br_dt (by omega), br_dt (by omega), br_dt (by omega), wrapI (by omega) (by omega)]
    by_cases hv : l.getD i 0 = 0
    · rw [br_f (by rw [hv]; rfl)]
      rw [if_pos hv] at hr
      exact hrec _ ⟨i + 1, by omega, by simp, hr⟩ (by simp only [Int.toNat_natCast]; omega)
    · rw [if_neg hv] at hr
      rw [br_t (bne_iff_ne.2 hv), hr]
  · rw [br_df (by omega), ← hr, List.drop_eq_nil_of_le (by omega)]
    rfl
theorem orderS_eq (a b : Key) : orS [cmpS a.1 b.1, cmpS a.2 b.2] = orderS a b := by
  obtain ⟨a1, a2⟩ := a
  obtain ⟨b1, b2⟩ := b
  simp only [orS, cmpS, orderS, keyLt]
  by_cases h1 : a1 < b1
  · simp [h1]
  · by_cases h2 : b1 < a1
    · have : ¬ a1 = b1 := by omega
      simp [h1, h2, this]
    · have : a1 = b1 := by omega
      subst this
      simp only [Int.lt_irrefl, decide_false, Bool.false_or, if_false, decide_true, Bool.true_and, if_true, Prod.mk.injEq, true_and]
      by_cases h3 : a2 < b2
      · simp [h3]
      · by_cases h4 : b2 < a2
        · have : ¬ a2 = b2 := by omega
          simp [h3, h4, this]
        · have : a2 = b2 := by omega
          simp [h3, h4, this]
theorem orderS_neg {a b : Key} : orderS a b < 0 ↔ keyLt a b = true := by
  unfold orderS
  split
  · rename_i h; simp [h]
  · split <;> simp_all
theorem orderS_zero {a b : Key} : orderS a b = 0 ↔ a = b := by
  unfold orderS
  split
  · rename_i h
    simp [keyLt_ne h]
  · split <;> simp_all
theorem orderS_ge {a b : Key} : orderS a b ≥ 0 ↔ keyLt a b = false := by
  have := orderS_neg (a := a) (b := b)
  cases h : keyLt a b with
  | true => have := this.2 h; simp; omega
  | false =>
    simp only [iff_true]
    rw [h] at this
    have : ¬ orderS a b < 0 := fun h => by simpa using this.1 h
    omega
theorem key_beq (a b : Key) : (a.1 == b.1 && a.2 == b.2) = decide (a = b) := by
  rw [← Bool.coe_iff_coe]
  simp only [Bool.and_eq_true, beq_iff_eq, decide_eq_true_eq]
  exact ⟨fun h => Prod.ext h.1 h.2, fun h => by subst h; exact ⟨rfl, rfl⟩⟩
theorem v_rless : Valid Try.prog n_rless c_rless := by
  refine valid_fn mixed hf_rless (by kernel_rfl) rfl (ts := tmpsOf f_rless.results.toList) (by kernel_rfl) (cfg := cfgW g_rless) tt_ok Γok_nil rless_tm c_rless (by kernel_rfl) (fun _ _ _ _ => ⟨⟩) ?_
  rintro ⟨(a : Key), (b : Key), ⟨⟩⟩ r u h
  refine ⟨0, (rless_rn _ _ _).trans (Eq.trans ?_ h)⟩
  show rless_P 0 a b = some ((keyLt a b, ()), ((), (), ()))
  unfold rless_P keyLt
  by_cases h1 : a.1 < b.1
  · rw [br_dt h1]; simp [h1]
  · rw [br_df h1]
    by_cases h2 : a.1 = b.1
    · rw [br_t (by simp [h2])]; simp [h2]
    · rw [br_f (by simp [h2])]; simp [h1, h2]
theorem v_rbfind : Valid Try.prog n_rbfind c_rbfind := by
  refine valid_fn mixed hf_rbfind (by kernel_rfl) rfl (ts := tmpsOf f_rbfind.results.toList) (by kernel_rfl) (cfg := cfgW g_rbfind) tt_ok (Γok_cons v_rless Γok_nil) rbfind_tm c_rbfind (by kernel_rfl) (fun _ _ _ _ => ⟨⟩) ?_
  rintro ⟨(l : List Cel), (k : Key), ⟨⟩⟩ r u h
  obtain ⟨h1, h2⟩ := grd_some h
  simp only [Bool.and_eq_true] at h1 h2
  have hl := lenOk_lt h1.1
  refine ⟨l.length + 1, (rbfind_rn _ _ _).trans (Eq.trans ?_ (congrArg some h2))⟩
  unfold rbfind_P
  have hc := cntK_le l k
  refine loopN_meas (step := rbfind_L1) (fun x => x.2.2.2.1.toNat - x.2.2.1.toNat) (fun x => ∃ (a b : Nat), a ≤ cntK l k ∧ cntK l k ≤ b ∧ b ≤ l.length ∧ x = (l, (k.1, k.2, ()), (a : Int), (b : Int), ())) (fun _ => some ((((cntK l k : Nat) : Int), hasK l k, ()), (), (), ())) ?_ _ _ ⟨0, l.length, by omega, by omega, by omega, rfl⟩ (by simp only; omega)
  rintro x ⟨a, b, ha, hb, hbl, rfl⟩ rec hrec
  simp only [rbfind_L1, notf', mk_eta]
  by_cases h : a < b
  · have e : IntKind.i64.wrap ((IntKind.i64.wrap ((a : Int) + b)).tdiv 2) = (((a + b) / 2 : Nat) : Int) := by
      rw [wrapI (n := (a : Int) + b) (by omega) (by omega), Int.tdiv_eq_ediv_of_nonneg (by omega), wrapI (by omega) (by omega)]; omega
    rw [br_dt (by omega), e, br_dt (by omega), br_dt (by omega), Int.toNat_natCast]
    have hi := cntK_iff h1.2 k ((a + b) / 2) ((0, 0), 0) (by omega)
    by_cases hv : keyLt (l.getD ((a + b) / 2) ((0, 0), 0)).1 k = true
    · rw [br_t hv, wrapI (by omega) (by omega)]
      have := hi.1 hv
      exact hrec _ ⟨(a + b) / 2 + 1, b, by omega, hb, hbl, by simp⟩ (by simp only; omega)
    · rw [br_f (by simpa using hv)]
      have : ¬ (a + b) / 2 < cntK l k := fun h => hv (hi.2 h)
      exact hrec _ ⟨a, (a + b) / 2, ha, by omega, by omega, rfl⟩ (by simp only; omega)
  · have e : a = cntK l k := by omega
    subst e
    rw [br_df (by omega)]
    unfold hasK
    by_cases hlt : cntK l k < l.length
    · rw [br_dt (by omega), br_dt (by omega), br_dt (by omega), Int.toNat_natCast, key_beq, decide_eq_true hlt, Bool.true_and]
    · rw [br_df (by omega), decide_eq_false hlt]; rfl
theorem drop_pred (l : List Cel) (i : Nat) (h0 : 0 < i) (h : i < l.length) : bufS (l.drop (i - 1)) = (keyLt (l.getD (i - 1) ((0, 0), 0)).1 (l.getD i ((0, 0), 0)).1 && bufS (l.drop i)) := by
  rw [drop_cons l (i - 1) ((0, 0), 0) (by omega), show i - 1 + 1 = i by omega, drop_cons l i ((0, 0), 0) h]
  rfl
theorem bufS_short {l : List Cel} (h : l.length ≤ 1) : bufS l = true := by
  match l, h with
  | [], _ => rfl
  | [_], _ => rfl
theorem hasK_lt {l : List Cel} {k : Key} (h : hasK l k = true) : cntK l k < l.length := by
  simp [hasK] at h; exact h.1
theorem put_mid (l : List Cel) (n : Nat) (c z : Cel) (hn : n ≤ l.length) :
    splice ((splice (List.replicate (l.length + 1) z) (List.take n l) 0 (List.replicate (l.length + 1) z).length).set n c) (List.take (l.length - n) (List.drop n l)) (n + 1)
      (((splice (List.replicate (l.length + 1) z) (List.take n l) 0 (List.replicate (l.length + 1) z).length).set n c).length - (n + 1)) = l.take n ++ c :: l.drop n := by
  have e1 : splice (List.replicate (l.length + 1) z) (List.take n l) 0 (List.replicate (l.length + 1) z).length = l.take n ++ List.replicate (l.length + 1 - n) z := by
    simp only [splice, List.take_zero, List.nil_append, List.length_replicate, Nat.zero_add]
    rw [List.take_of_length_le (by simp; omega), List.drop_replicate]
    congr 2
    have : (List.take n l).length = n := by simp; omega
    rw [this]
    have : Nat.min n (l.length + 1) = n := Nat.min_eq_left (by omega)
    rw [this]
  rw [e1]
  have e2 : (l.take n ++ List.replicate (l.length + 1 - n) z).set n c = l.take n ++ c :: List.replicate (l.length - n) z := by
    rw [List.set_append_right _ _ (by rw [List.length_take]; omega)]
    congr 1
    have : n - (List.take n l).length = 0 := by simp; omega
    rw [this, show l.length + 1 - n = (l.length - n) + 1 by omega, List.replicate_succ]
    rfl
  rw [e2]
  have e3 : List.take (l.length - n) (List.drop n l) = l.drop n := List.take_of_length_le (by simp)
  rw [e3]
  have hln : (l.take n).length = n := by simp; omega
  simp only [splice]
  have e4 : List.take (n + 1) (l.take n ++ c :: List.replicate (l.length - n) z) = l.take n ++ [c] := by
    rw [List.take_append, hln, show n + 1 - n = 1 by omega, List.take_of_length_le (by omega)]
    rfl
  have e5 : (l.take n ++ c :: List.replicate (l.length - n) z).length - (n + 1) = l.length - n := by simp [hln]; omega
  have e6 : Nat.min (List.drop n l).length (l.length - n) = l.length - n := by
    have : (List.drop n l).length = l.length - n := by simp
    rw [this]; exact Nat.min_self _
  have e7 : List.take (l.length - n) (List.drop n l) = List.drop n l := List.take_of_length_le (by rw [List.length_drop]; omega)
  have e8 : List.drop (n + 1 + (l.length - n)) (l.take n ++ c :: List.replicate (l.length - n) z) = [] := List.drop_eq_nil_of_le (by rw [List.length_append, hln, List.length_cons, List.length_replicate]; omega)
  rw [e4, e5, e6, e7, e8]
  simp
theorem v_rbget : Valid Try.prog n_rbget c_rbget := by
  refine valid_fn mixed hf_rbget (by kernel_rfl) rfl (ts := tmpsOf f_rbget.results.toList) (by kernel_rfl) (cfg := cfgW g_rbget) tt_ok (Γok_cons v_rbfind Γok_nil) rbget_tm c_rbget (by kernel_rfl) (fun _ _ _ _ => ⟨⟩) ?_
  rintro ⟨(l : List Cel), (k : Key), ⟨⟩⟩ r u h
  obtain ⟨h1, h2⟩ := grd_some h
  simp only at h1 h2
  refine ⟨0, (rbget_rn _ _ _).trans (Eq.trans ?_ (congrArg some h2))⟩
  unfold rbget_P getK
  rw [bd_grd h1]
  simp only [mk_eta, Int.toNat_natCast]
  cases hk : hasK l k with
  | true =>
    have hlt := hasK_lt hk
    rw [br_f (by rfl), br_dt (by omega), br_dt (by omega)]; rfl
  | false => rw [br_t (by rfl)]; rfl
theorem v_rput : Valid Try.prog n_rput c_rput := by
  refine valid_fn mixed hf_rput (by kernel_rfl) rfl (ts := tmpsOf f_rput.results.toList) (by kernel_rfl) (cfg := cfgW g_rput) tt_ok (Γok_cons v_rbfind Γok_nil) rput_tm c_rput (by kernel_rfl) (fun _ _ _ _ => ⟨⟩) ?_
  rintro ⟨(l : List Cel), (c : Cel), ⟨⟩⟩ r u h
  obtain ⟨h1, h2⟩ := grd_some h
  simp only at h1 h2
  have hl := lenOk_lt (Bool.and_eq_true _ _ ▸ h1 : _ ∧ _).1
  refine ⟨0, (rput_rn _ _ _).trans (Eq.trans ?_ (congrArg some h2))⟩
  unfold rput_P putK
  have hc := cntK_le l c.1
  rw [bd_grd h1]
  simp only [mk_eta, Int.toNat_natCast]
  rw [br_dt (by omega), br_dt (by omega), br_dt (lim_mul (by simp; omega) (by decide)), br_dt (lim_le (by simp; omega)), br_dt (lim_mul (by simp; omega) (by decide)), br_dt (lim_le (by simp; omega))]
  cases hk : hasK l c.1 with
  | true =>
    have hlt := hasK_lt hk
    have e2 : IntKind.i64.wrap ((cntK l c.1 : Int) + 1) = ((cntK l c.1 + 1 : Nat) : Int) := (wrapI (by omega) (by omega)).trans (by omega)
    simp only [e2, Int.toNat_natCast]
    have e3 : List.take (l.length - (cntK l c.1 + 1)) (List.drop (cntK l c.1 + 1) l) = List.drop (cntK l c.1 + 1) l := List.take_of_length_le (by simp)
    simp only [e3]
    rw [br_t rfl, br_dt (by omega), br_dt (by omega), br_dt (lim_mul (by simp [cat]; omega) (by decide)), br_dt (lim_le (by simp [cat]; omega))]
    simp [cat]
    rfl
  | false =>
    have e3 : List.take (l.length - cntK l c.1) (List.drop (cntK l c.1) l) = List.drop (cntK l c.1) l := List.take_of_length_le (by simp)
    simp only [e3]
    rw [br_f rfl, br_dt (by omega), br_dt (by omega), br_dt (lim_mul (by simp [cat]; omega) (by decide)), br_dt (lim_le (by simp [cat]; omega))]
    simp [cat]
    rfl
end Go.BB
