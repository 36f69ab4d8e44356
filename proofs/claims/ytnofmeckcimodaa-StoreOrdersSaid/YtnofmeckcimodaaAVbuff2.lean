/- A symbolic machine for the model's code, and what it shows of this seat's functions. No conditions. -/
import Derived.Test.YtnofmeckcimodaaAGbuff
import Derived.Test.YtnofmeckcimodaaAGchain
import Derived.Test.YtnofmeckcimodaaALStore
set_option linter.unusedSimpArgs false
set_option linter.unusedVariables false
namespace Go.BB
open Go Go.Proofs
set_option maxRecDepth 100000
theorem mk_eta {α β : Type} (p : α × β) : (p.1, p.2) = p := rfl
theorem notf' {α : Type} {x y : α} : br (!false) x y = x := rfl
theorem v_isNaN : Valid Try.prog n_isNaN c_isNaN := by
  refine valid_fn mixed hf_isNaN (by kernel_rfl) rfl (ts := tmpsOf f_isNaN.results.toList) (by kernel_rfl) (cfg := cfgW g_isNaN) tt_ok Γok_nil isNaN_tm c_isNaN (by kernel_rfl) (fun _ _ _ _ => ⟨⟩) ?_
  rintro ⟨(n : Int), ⟨⟩⟩ r u h
  refine ⟨0, (isNaN_rn _ _).trans (Eq.trans ?_ h)⟩
  simp [isNaN_P]; rfl
theorem v_compare : Valid Try.prog n_compare c_compare := by
  refine valid_fn mixed hf_compare (by kernel_rfl) rfl (ts := tmpsOf f_compare.results.toList) (by kernel_rfl) (cfg := cfgW g_compare) tt_ok (Γok_cons v_isNaN Γok_nil) compare_tm c_compare (by kernel_rfl) (fun _ _ _ _ => ⟨⟩) ?_
  rintro ⟨(a : Int), (b : Int), ⟨⟩⟩ r u h
  refine ⟨0, (compare_rn _ _ _).trans (Eq.trans ?_ h)⟩
  show compare_P 0 a b = some ((cmpS a b, ()), ((), (), ()))
  unfold compare_P cmpS
  by_cases h1 : a < b
  · rw [br_dt h1, if_pos h1]
  · rw [br_df h1, if_neg h1]
    by_cases h2 : b < a
    · rw [br_dt (by omega), if_pos h2]
    · rw [br_df (by omega), if_neg h2]
theorem v_or : Valid Try.prog n_or c_or := by
  refine valid_fn mixed hf_or (by kernel_rfl) rfl (ts := tmpsOf f_or.results.toList) (by kernel_rfl) (cfg := cfgW g_or) tt_ok Γok_nil or_tm c_or (by kernel_rfl) (fun _ _ _ _ => ⟨⟩) ?_
  rintro ⟨(l : List Int), ⟨⟩⟩ r u h
  obtain ⟨h1, h2⟩ := grd_some h
  simp only at h1 h2
  have hl := lenOk_lt h1
  refine ⟨l.length + 1, (or_rn _ _).trans (Eq.trans ?_ (congrArg some h2))⟩
  unfold or_P
  refine loopN_meas (step := or_L1) (fun x => l.length - x.2.2.2.1.toNat) (fun x => ∃ (i : Nat), i ≤ l.length ∧ x = (0, l, (l.length : Int), (i : Int), ()) ∧ orS (l.drop i) = orS l) (fun _ => some ((orS l, ()), (), ())) ?_ _ _ ⟨0, by omega, rfl, by simp⟩ (by simp only; omega)
  rintro x ⟨i, hi, rfl, hr⟩ rec hrec
  simp only [or_L1, Int.toNat_natCast]
  by_cases h : i < l.length
  · rw [drop_cons l i 0 h] at hr
    simp only [orS] at hr
    rw [br_dt (by omega), br_dt (by omega), br_dt (by omega), wrapI (by omega) (by omega)]
    by_cases hv : l.getD i 0 = 0
    · rw [br_f (by rw [hv]; rfl)]
      rw [if_pos hv] at hr
      exact hrec _ ⟨i + 1, by omega, by simp, hr⟩ (by simp only [Int.toNat_natCast]; omega)
    · rw [if_neg hv] at hr
      rw [br_t (bne_iff_ne.2 hv), hr]
  · rw [br_df (by omega), ← hr, List.drop_eq_nil_of_le (by omega)]
    rfl
theorem orderS_eq (a b : Key) : orS [cmpS a.1 b.1, cmpS a.2 b.2] = orderS a b := by
  obtain ⟨a1, a2⟩ := a
  obtain ⟨b1, b2⟩ := b
  simp only [orS, cmpS, orderS, keyLt]
  by_cases h1 : a1 < b1
  · simp [h1]
  · by_cases h2 : b1 < a1
    · have : ¬ a1 = b1 := by omega
      simp [h1, h2, this]
    · have : a1 = b1 := by omega
      subst this
      simp only [Int.lt_irrefl, decide_false, Bool.false_or, if_false, decide_true, Bool.true_and, if_true, Prod.mk.injEq, true_and]
      by_cases h3 : a2 < b2
      · simp [h3]
      · by_cases h4 : b2 < a2
        · have : ¬ a2 = b2 := by omega
          simp [h3, h4, this]
        · have : a2 = b2 := by omega
          simp [h3, h4, this]
theorem orderS_neg {a b : Key} : orderS a b < 0 ↔ keyLt a b = true := by
  unfold orderS
  split
  · rename_i h; simp [h]
  · split <;> simp_all
theorem orderS_zero {a b : Key} : orderS a b = 0 ↔ a = b := by
  unfold orderS
  split
  · rename_i h
    simp [keyLt_ne h]
  · split <;> simp_all
theorem orderS_ge {a b : Key} : orderS a b ≥ 0 ↔ keyLt a b = false := by
  have := orderS_neg (a := a) (b := b)
  cases h : keyLt a b with
  | true => have := this.2 h; simp; omega
  | false =>
    simp only [iff_true]
    rw [h] at this
    have : ¬ orderS a b < 0 := fun h => by simpa using this.1 h
    omega
theorem key_beq (a b : Key) : (a.1 == b.1 && a.2 == b.2) = decide (a = b) := by
  rw [← Bool.coe_iff_coe]
  simp only [Bool.and_eq_true, beq_iff_eq, decide_eq_true_eq]
  exact ⟨fun h => Prod.ext h.1 h.2, fun h => by subst h; exact ⟨rfl, rfl⟩⟩
theorem v_rless : Valid Try.prog n_rless c_rless := by
  refine valid_fn mixed hf_rless (by kernel_rfl) rfl (ts := tmpsOf f_rless.results.toList) (by kernel_rfl) (cfg := cfgW g_rless) tt_ok Γok_nil rless_tm c_rless (by kernel_rfl) (fun _ _ _ _ => ⟨⟩) ?_
  rintro ⟨(a : Key), (b : Key), ⟨⟩⟩ r u h
  refine ⟨0, (rless_rn _ _ _).trans (Eq.trans ?_ h)⟩
  show rless_P 0 a b = some ((keyLt a b, ()), ((), (), ()))
  unfold rless_P keyLt
  by_cases h1 : a.1 < b.1
  · rw [br_dt h1]; simp [h1]
  · rw [br_df h1]
    by_cases h2 : a.1 = b.1
    · rw [br_t (by simp [h2])]; simp [h2]
    · rw [br_f (by simp [h2])]; simp [h1, h2]
theorem v_rbfind : Valid Try.prog n_rbfind c_rbfind := by
  refine valid_fn mixed hf_rbfind (by kernel_rfl) rfl (ts := tmpsOf f_rbfind.results.toList) (by kernel_rfl) (cfg := cfgW g_rbfind) tt_ok (Γok_cons v_rless Γok_nil) rbfind_tm c_rbfind (by kernel_rfl) (fun _ _ _ _ => ⟨⟩) ?_
  rintro ⟨(l : List Cel), (k : Key), ⟨⟩⟩ r u h
  obtain ⟨h1, h2⟩ := grd_some h
  simp only [Bool.and_eq_true] at h1 h2
  have hl := lenOk_lt h1.1
  refine ⟨l.length + 1, (rbfind_rn _ _ _).trans (Eq.trans ?_ (congrArg some h2))⟩
  unfold rbfind_P
  have hc := cntK_le l k
  refine loopN_meas (step := rbfind_L1) (fun x => x.2.2.2.1.toNat - x.2.2.1.toNat) (fun x => ∃ (a b : Nat), a ≤ cntK l k ∧ cntK l k ≤ b ∧ b ≤ l.length ∧ x = (l, (k.1, k.2, ()), (a : Int), (b : Int), ())) (fun _ => some ((((cntK l k : Nat) : Int), hasK l k, ()), (), (), ())) ?_ _ _ ⟨0, l.length, by omega, by omega, by omega, rfl⟩ (by simp only; omega)
  rintro x ⟨a, b, ha, hb, hbl, rfl⟩ rec hrec
  simp only [rbfind_L1, notf', mk_eta]
  by_cases h : a < b
  · have e : IntKind.i64.wrap ((IntKind.i64.wrap ((a : Int) + b)).tdiv 2) = (((a + b) / 2 : Nat) : Int) := by
      rw [wrapI (n := (a : Int) + b) (by omega) (by omega), Int.tdiv_eq_ediv_of_nonneg (by omega), wrapI (by omega) (by omega)]; omega
    rw [br_dt (by omega), e, br_dt (by omega), br_dt (by omega), Int.toNat_natCast]
    have hi := cntK_iff h1.2 k ((a + b) / 2) ((0, 0), 0) (by omega)
    by_cases hv : keyLt (l.getD ((a + b) / 2) ((0, 0), 0)).1 k = true
    · rw [br_t hv, wrapI (by omega) (by omega)]
      have := hi.1 hv
      exact hrec _ ⟨(a + b) / 2 + 1, b, by omega, hb, hbl, by simp⟩ (by simp only; omega)
    · rw [br_f (by simpa using hv)]
      have : ¬ (a + b) / 2 < cntK l k := fun h => hv (hi.2 h)
      exact hrec _ ⟨a, (a + b) / 2, ha, by omega, by omega, rfl⟩ (by simp only; omega)
  · have e : a = cntK l k := by omega
    subst e
    rw [br_df (by omega)]
    unfold hasK
    by_cases hlt : cntK l k < l.length
    · rw [br_dt (by omega), br_dt (by omega), br_dt (by omega), Int.toNat_natCast, key_beq, decide_eq_true hlt, Bool.true_and]
    · rw [br_df (by omega), decide_eq_false hlt]; rfl
theorem drop_pred (l : List Cel) (i : Nat) (h0 : 0 < i) (h : i < l.length) : bufS (l.drop (i - 1)) = (keyLt (l.getD (i - 1) ((0, 0), 0)).1 (l.getD i ((0, 0), 0)).1 && bufS (l.drop i)) := by
  rw [drop_cons l (i - 1) ((0, 0), 0) (by omega), show i - 1 + 1 = i by omega, drop_cons l i ((0, 0), 0) h]
  rfl
theorem bufS_short {l : List Cel} (h : l.length ≤ 1) : bufS l = true := by
  match l, h with
  | [], _ => rfl
  | [_], _ => rfl
theorem hasK_lt {l : List Cel} {k : Key} (h : hasK l k = true) : cntK l k < l.length := by
  simp [hasK] at h; exact h.1
theorem put_mid (l : List Cel) (n : Nat) (c z : Cel) (hn : n ≤ l.length) :
    splice ((splice (List.replicate (l.length + 1) z) (List.take n l) 0 (List.replicate (l.length + 1) z).length).set n c) (List.take (l.length - n) (List.drop n l)) (n + 1)
      (((splice (List.replicate (l.length + 1) z) (List.take n l) 0 (List.replicate (l.length + 1) z).length).set n c).length - (n + 1)) = l.take n ++ c :: l.drop n := by
  have e1 : splice (List.replicate (l.length + 1) z) (List.take n l) 0 (List.replicate (l.length + 1) z).length = l.take n ++ List.replicate (l.length + 1 - n) z := by
    simp only [splice, List.take_zero, List.nil_append, List.length_replicate, Nat.zero_add]
    rw [List.take_of_length_le (by simp; omega), List.drop_replicate]
    congr 2
    have : (List.take n l).length = n := by simp; omega
    rw [this]
    have : Nat.min n (l.length + 1) = n := Nat.min_eq_left (by omega)
    rw [this]
  rw [e1]
  have e2 : (l.take n ++ List.replicate (l.length + 1 - n) z).set n c = l.take n ++ c :: List.replicate (l.length - n) z := by
    rw [List.set_append_right _ _ (by rw [List.length_take]; omega)]
    congr 1
    have : n - (List.take n l).length = 0 := by simp; omega
    rw [this, show l.length + 1 - n = (l.length - n) + 1 by omega, List.replicate_succ]
    rfl
  rw [e2]
  have e3 : List.take (l.length - n) (List.drop n l) = l.drop n := List.take_of_length_le (by simp)
  rw [e3]
  have hln : (l.take n).length = n := by simp; omega
  simp only [splice]
  have e4 : List.take (n + 1) (l.take n ++ c :: List.replicate (l.length - n) z) = l.take n ++ [c] := by
    rw [List.take_append, hln, show n + 1 - n = 1 by omega, List.take_of_length_le (by omega)]
    rfl
  have e5 : (l.take n ++ c :: List.replicate (l.length - n) z).length - (n + 1) = l.length - n := by simp [hln]; omega
  have e6 : Nat.min (List.drop n l).length (l.length - n) = l.length - n := by
    have : (List.drop n l).length = l.length - n := by simp
    rw [this]; exact Nat.min_self _
  have e7 : List.take (l.length - n) (List.drop n l) = List.drop n l := List.take_of_length_le (by rw [List.length_drop]; omega)
  have e8 : List.drop (n + 1 + (l.length - n)) (l.take n ++ c :: List.replicate (l.length - n) z) = [] := List.drop_eq_nil_of_le (by rw [List.length_append, hln, List.length_cons, List.length_replicate]; omega)
  rw [e4, e5, e6, e7, e8]
  simp
theorem v_rbget : Valid Try.prog n_rbget c_rbget := by
  refine valid_fn mixed hf_rbget (by kernel_rfl) rfl (ts := tmpsOf f_rbget.results.toList) (by kernel_rfl) (cfg := cfgW g_rbget) tt_ok (Γok_cons v_rbfind Γok_nil) rbget_tm c_rbget (by kernel_rfl) (fun _ _ _ _ => ⟨⟩) ?_
  rintro ⟨(l : List Cel), (k : Key), ⟨⟩⟩ r u h
  obtain ⟨h1, h2⟩ := grd_some h
  simp only at h1 h2
  refine ⟨0, (rbget_rn _ _ _).trans (Eq.trans ?_ (congrArg some h2))⟩
  unfold rbget_P getK
  rw [bd_grd h1]
  simp only [mk_eta, Int.toNat_natCast]
  cases hk : hasK l k with
  | true =>
    have hlt := hasK_lt hk
    rw [br_f (by rfl), br_dt (by omega), br_dt (by omega)]; rfl
  | false => rw [br_t (by rfl)]; rfl
theorem v_rput : Valid Try.prog n_rput c_rput := by
  refine valid_fn mixed hf_rput (by kernel_rfl) rfl (ts := tmpsOf f_rput.results.toList) (by kernel_rfl) (cfg := cfgW g_rput) tt_ok (Γok_cons v_rbfind Γok_nil) rput_tm c_rput (by kernel_rfl) (fun _ _ _ _ => ⟨⟩) ?_
  rintro ⟨(l : List Cel), (c : Cel), ⟨⟩⟩ r u h
  obtain ⟨h1, h2⟩ := grd_some h
  simp only at h1 h2
  have hl := lenOk_lt (Bool.and_eq_true _ _ ▸ h1 : _ ∧ _).1
  refine ⟨0, (rput_rn _ _ _).trans (Eq.trans ?_ (congrArg some h2))⟩
  unfold rput_P putK
  have hc := cntK_le l c.1
  rw [bd_grd h1]
  simp only [mk_eta, Int.toNat_natCast]
  rw [br_dt (by omega), br_dt (by omega), br_dt (lim_mul (by simp; omega) (by decide)), br_dt (lim_le (by simp; omega)), br_dt (lim_mul (by simp; omega) (by decide)), br_dt (lim_le (by simp; omega))]
  cases hk : hasK l c.1 with
  | true =>
    have hlt := hasK_lt hk
    have e2 : IntKind.i64.wrap ((cntK l c.1 : Int) + 1) = ((cntK l c.1 + 1 : Nat) : Int) := (wrapI (by omega) (by omega)).trans (by omega)
    simp only [e2, Int.toNat_natCast]
    have e3 : List.take (l.length - (cntK l c.1 + 1)) (List.drop (cntK l c.1 + 1) l) = List.drop (cntK l c.1 + 1) l := List.take_of_length_le (by simp)
    simp only [e3]
    rw [br_t rfl, br_dt (by omega), br_dt (by omega), br_dt (lim_mul (by simp [cat]; omega) (by decide)), br_dt (lim_le (by simp [cat]; omega))]
    simp [cat]
    rfl
  | false =>
    have e3 : List.take (l.length - cntK l c.1) (List.drop (cntK l c.1) l) = List.drop (cntK l c.1) l := List.take_of_length_le (by simp)
    simp only [e3]
    rw [br_f rfl, br_dt (by omega), br_dt (by omega), br_dt (lim_mul (by simp [cat]; omega) (by decide)), br_dt (lim_le (by simp [cat]; omega))]
    simp [cat]
    rfl
end Go.BB
set_option linter.unusedSimpArgs false
set_option linter.unusedVariables false
namespace Go.BB
open Go Go.Proofs
set_option maxRecDepth 100000
theorem sp_eta (x : Spn) : (x.1, x.2.1, x.2.2) = x := rfl
theorem v_lay : Valid Try.prog n_lay c_lay := by
  refine valid_fn mixed hf_lay (by kernel_rfl) rfl (ts := tmpsOf f_lay.results.toList) (by kernel_rfl) (cfg := cfgW g_lay) tt_ok Γok_nil lay_tm c_lay (by kernel_rfl) (fun _ _ _ _ => ⟨⟩) ?_
  rintro ⟨(k : Key), (l : List Int), ⟨⟩⟩ r u h
  obtain ⟨h1, h2⟩ := grd_some h
  simp only [Bool.and_eq_true, decide_eq_true_eq] at h1 h2
  have hl := lenOk_lt h1.1
  refine ⟨l.length + 1, (lay_rn _ _ _).trans (Eq.trans ?_ (congrArg some h2))⟩
  unfold lay_P
  rw [br_dt (by omega), br_dt (lim_mul (by omega) (by decide)), br_dt (lim_le (by omega))]
  simp only [Int.toNat_natCast]
  have hlen : ∀ (ws : List Int) (a : Int), (layFrom k.1 a ws).length = ws.length := by
    intro ws
    induction ws with
    | nil => intro a; rfl
    | cons w ws ih => intro a; simp [layFrom, ih]
  have hget : ∀ (ws : List Int) (a : Int) (i : Nat), i < ws.length → (layFrom k.1 a ws)[i]? = some ((k.1, a + i), ws.getD i 0) := by
    intro ws
    induction ws with
    | nil => intro a i h; simp at h
    | cons w ws ih =>
      intro a i h
      cases i with
      | zero => simp [layFrom]
      | succ i =>
        simp only [layFrom, List.getElem?_cons_succ, ih (a + 1) i (by simpa using h), List.getD_cons_succ]
        congr 3
        push_cast; omega
  refine Eq.trans ?_ (loopN_for (step := lay_L1) (res := some ((layFrom k.1 k.2 l, ()), (), (), ())) l.length (fun i => ((k.1, k.2, ()), (layFrom k.1 k.2 l).take i ++ List.replicate (l.length - i) ((0, 0), 0), l, (l.length : Int), (i : Int), ())) (fun i hi rec => ?_) (fun rec => ?_) (l.length + 1) (by omega))
  · simp; rfl
  · have ht : (List.take i (layFrom k.1 k.2 l)).length = i := by rw [List.length_take, hlen]; omega
    simp only [lay_L1, Int.toNat_natCast]
    rw [br_dt (by omega), br_dt (by omega), br_dt (by omega), br_dt (by omega), br_dt (by rw [List.length_append, ht, List.length_replicate]; omega), wrapI (n := (i : Int) + 1) (by omega) (by omega), wrapI (by omega) (by omega)]
    congr 1
    refine Prod.ext rfl (Prod.ext ?_ rfl)
    show List.set (_ ++ _) i _ = _
    rw [List.set_append_right _ _ (by omega), ht, Nat.sub_self, show l.length - i = (l.length - (i + 1)) + 1 by omega, List.replicate_succ, List.set_cons_zero, List.take_add_one, hget l k.2 i hi]
    simp
  · simp only [lay_L1]
    rw [br_df (by omega), Nat.sub_self]
    have : List.take l.length (layFrom k.1 k.2 l) = layFrom k.1 k.2 l := List.take_of_length_le (by rw [hlen]; omega)
    rw [this]
    simp
/-- what is left from an address on -/
def tailS (t f to : Int) : List Spn := if f < to then [(t, f, to)] else []
theorem restGo_nil (t to f : Int) : restGo t to [] f = tailS t f to := rfl
theorem restGo_in {t to : Int} {c : Cel} {l : List Cel} {f : Int} (h : c.1.1 = t ∧ c.1.2 < to) : restGo t to (c :: l) f = tailS t f c.1.2 ++ restGo t to l (c.1.2 + 1) := by
  simp only [restGo, if_pos h]; rfl
theorem restGo_out {t to : Int} {c : Cel} {l : List Cel} {f : Int} (h : ¬ (c.1.1 = t ∧ c.1.2 < to)) : restGo t to (c :: l) f = tailS t f to := by
  simp only [restGo, if_neg h]; rfl
theorem tailS_len (t f to : Int) : (tailS t f to).length ≤ 1 := by unfold tailS; split <;> simp
theorem cntK_ge {l : List Cel} (hb : bufS l = true) (k : Key) (i : Nat) (z : Cel) (hi : i < l.length) (h : cntK l k ≤ i) : keyLt (l.getD i z).1 k = false := by
  cases hk : keyLt (l.getD i z).1 k with
  | false => rfl
  | true => have := (cntK_iff hb k i z hi).1 hk; omega
theorem app_tail {α : Type} {t f to : Int} {y : List Spn} {K : List Spn → Option α} (hy : y.length < 1500000) :
    br (decide (f < to)) (br (decide ((y.length + [(t, f, to)].length) * 24 ≤ LIM)) (br (decide (y.length + [(t, f, to)].length ≤ LIM)) (K (cat y [(t, f, to)])) none) none) (K y) = K (y ++ tailS t f to) := by
  unfold tailS
  by_cases h : f < to
  · rw [br_dt h, br_dt (lim_mul (by simp; omega) (by decide)), br_dt (lim_le (by simp; omega)), if_pos h]; rfl
  · rw [br_df h, if_neg h, List.append_nil]
theorem cut1_len (x s : Spn) : (cut1 x s).length ≤ 2 := by
  unfold cut1
  repeat' split
  all_goals simp
theorem cutS_snoc (l : List Spn) (x s : Spn) : cutS (l ++ [x]) s = cutS l s ++ cut1 x s := by simp [cutS]
theorem cutS_len (s : Spn) : ∀ l, (cutS l s).length ≤ 2 * l.length
  | [] => by simp [cutS]
  | x :: l => by
    have h1 := cutS_len s l
    have h2 := cut1_len x s
    unfold cutS at h1 ⊢
    rw [List.flatMap_cons, List.length_append, List.length_cons]
    omega
theorem cutS_app (a b : List Spn) (s : Spn) : cutS (a ++ b) s = cutS a s ++ cutS b s := by simp [cutS]
theorem cutS_past {t a e : Int} : ∀ {l : List Spn}, (∀ x ∈ l, x.2.2 ≤ a) → cutS l (t, a, e) = l
  | [], _ => rfl
  | x :: l, h => by
    have ih := cutS_past (t := t) (a := a) (e := e) (l := l) fun y hy => h y (List.mem_cons_of_mem _ hy)
    unfold cutS at ih ⊢
    rw [List.flatMap_cons, ih]
    have : cut1 x (t, a, e) = [x] := by
      unfold cut1
      rw [if_pos (.inr (.inl (h x List.mem_cons_self)))]
    rw [this]; rfl
theorem cutS_tail {t f to a : Int} (h1 : f ≤ a) (h2 : a < to) : cutS (tailS t f to) (t, a, a + 1) = tailS t f a ++ tailS t (a + 1) to := by
  unfold tailS
  rw [if_pos (by omega)]
  simp only [cutS, List.flatMap_cons, List.flatMap_nil, List.append_nil, cut1]
  rw [if_neg (fun h => h.elim (fun h => h rfl) (fun h => h.elim (fun h => by omega) (fun h => by omega)))]
theorem restGo_past {t to : Int} {l : List Cel} {f : Int} (h : ∀ c ∈ l, ¬ (c.1.1 = t ∧ c.1.2 < to)) : restGo t to l f = tailS t f to := by
  cases l with
  | nil => rfl
  | cons c l => exact restGo_out (h c List.mem_cons_self)
theorem v_rspanRight : Valid Try.prog n_rspanRight c_rspanRight := by
  refine valid_fn mixed hf_rspanRight (by kernel_rfl) rfl (ts := tmpsOf f_rspanRight.results.toList) (by kernel_rfl) (cfg := cfgW g_rspanRight) tt_ok Γok_nil rspanRight_tm c_rspanRight (by kernel_rfl) (fun _ _ _ _ => ⟨⟩) ?_
  rintro ⟨(s : Spn), ⟨⟩⟩ r u h
  refine ⟨0, (rspanRight_rn _ _).trans (Eq.trans ?_ h)⟩
  show rspanRight_P 0 s = some ((spanR s, ()), (), ())
  unfold rspanRight_P spanR
  by_cases c1 : 0 ≤ s.1
  · rw [br_dt c1, decide_eq_true c1, Bool.true_and]
    by_cases c2 : s.1 < 4
    · rw [br_dt (by omega), decide_eq_true c2, Bool.true_and]
      by_cases c3 : 0 ≤ s.2.1
      · rw [br_dt c3, decide_eq_true c3, Bool.true_and]
        by_cases c4 : s.2.2 ≤ 65536
        · rw [br_dt c4, decide_eq_true c4, Bool.true_and]
        · rw [br_df c4, decide_eq_false c4]; rfl
      · rw [br_df c3, decide_eq_false c3]; rfl
    · rw [br_df (by omega), decide_eq_false c2]; rfl
  · rw [br_df c1, decide_eq_false c1]; rfl
/-- what is still to be looked at behind p -/
def canonA (p : Spn) : List Spn → Bool
  | [] => true
  | b :: l => aheadS p b && canonS (b :: l)
theorem canonS_cons (a : Spn) (l : List Spn) : canonS (a :: l) = (spanR a && canonA a l) := by
  cases l with
  | nil => simp [canonS, canonA]
  | cons b l => simp [canonS, canonA]
theorem spn_at {l : List Spn} (h : spnOk l = true) (i : Nat) (hi : i < l.length) : -70000 ≤ (l.getD i (0, 0, 0)).2.1 ∧ (l.getD i (0, 0, 0)).2.1 ≤ 70000 ∧ -70000 ≤ (l.getD i (0, 0, 0)).2.2 ∧ (l.getD i (0, 0, 0)).2.2 ≤ 70000 := by
  have := List.all_eq_true.1 h (l.getD i (0, 0, 0)) (by rw [List.getD_eq_getElem?_getD, List.getElem?_eq_getElem hi]; exact List.getElem_mem _)
  simp only [Bool.and_eq_true, decide_eq_true_eq] at this
  exact this
theorem v_key : Valid Try.prog n_key c_key := by
  refine valid_fnc mixed hf_key (by kernel_rfl) rfl (cfg := cfgW g_key) tt_ok (Γok_cons v_within (Γok_cons v_digit Γok_nil)) key_tm c_key (by kernel_rfl) (fun _ _ _ _ => ⟨⟩) ?_
  rintro ⟨(k : Int), ⟨⟩⟩ r u h
  refine ⟨0, (key_rn _ _).trans (Eq.trans ?_ h)⟩
  show key_P 0 k = some ((keyS k, ()), (), ())
  unfold key_P keyS
  have h3 := digitS_range k 4 (n := 16) (by decide)
  rw [bd_grd (by rfl), bd_grd (by rfl), bd_grd (by rfl)]
  simp only
  rw [wrapI (n := 65535 - digitS k 4 16) (by omega) (by omega)]
  by_cases c1 : digitS k 64 16 = 0
  · rw [br_t (beq_iff_eq.2 c1), if_pos c1]
  · rw [br_f (beq_eq_false_iff_ne.2 c1), if_neg c1]
theorem v_cell : Valid Try.prog n_cell c_cell := by
  refine valid_fnc mixed hf_cell (by kernel_rfl) rfl (cfg := cfgW g_cell) tt_ok (Γok_cons v_key (Γok_cons v_digit Γok_nil)) cell_tm c_cell (by kernel_rfl) (fun _ _ _ _ => ⟨⟩) ?_
  rintro ⟨(k : Int), ⟨⟩⟩ r u h
  refine ⟨0, (cell_rn _ _).trans (Eq.trans ?_ h)⟩
  show cell_P 0 k = some ((cellS k, ()), (), ())
  unfold cell_P cellS
  have h3 := digitS_range k 1024 (n := 65536) (by decide)
  have hk := keyS_ok k
  have hk1 : (keyS k).1 = k % 4 := rfl
  rw [bd_grd (by rfl)]
  simp only [notf', mk_eta]
  rw [wrapW (n := digitS k 1024 65536) (by omega) (by omega), hk1]
  by_cases c1 : k % 4 < 2
  · rw [br_dt c1, if_pos c1, Int.tmod_eq_emod_of_nonneg (by omega)]
  · rw [br_df c1, if_neg c1]
theorem v_cells : Valid Try.prog n_cells c_cells := by
  refine valid_fn mixed hf_cells (by kernel_rfl) rfl (ts := tmpsOf f_cells.results.toList) (by kernel_rfl) (cfg := cfgW g_cells) tt_ok (Γok_cons v_cell (Γok_cons v_rput Γok_nil)) cells_tm c_cells (by kernel_rfl) (fun _ _ _ _ => ⟨⟩) ?_
  rintro ⟨(l : List Int), ⟨⟩⟩ r u h
  refine ⟨22, (cells_rn _ _).trans (Eq.trans ?_ h)⟩
  show cells_P 22 l = some ((cellsS l, ()), (), ())
  unfold cells_P
  have hlen : (l.take 20).length ≤ 20 ∧ (l.take 20).length ≤ l.length := by rw [List.length_take]; omega
  refine loopN_for (step := cells_L1) (l.take 20).length (fun i => (l, cellsR (l.take i), (i : Int), ())) (fun i hi rec => ?_) (fun rec => ?_) _ (by omega)
  · simp only [cells_L1, Int.toNat_natCast, mk_eta]
    have h20 : i < 20 ∧ i < l.length := by rw [List.length_take] at hi; omega
    have hb : bufS (cellsR (l.take i)) = true := foldl_buf _ _ rfl
    have hn : (cellsR (l.take i)).length ≤ 20 := by
      have := foldl_len (l.take i) []
      unfold cellsR
      rw [List.length_take] at this
      simp at this
      omega
    rw [br_dt (by omega), br_dt (by omega), br_dt (by omega), br_dt (by omega), bd_grd (by rw [hb]; simp [lenOk]; omega), wrapI (n := (i : Int) + 1) (by omega) (by omega)]
    simp only
    congr 1
    refine Prod.ext rfl (Prod.ext ?_ rfl)
    show putK _ _ = cellsR _
    rw [take_snoc l i 0 h20.2]
    unfold cellsR
    rw [List.foldl_append, putK_eq]
    rfl
  · simp only [cells_L1]
    rw [cellsS_eq]
    by_cases h : l.length ≤ 20
    · have e : l.take 20 = l := List.take_of_length_le h
      rw [e, br_df (by omega), List.take_length]
    · have e : (l.take 20).length = 20 := by rw [List.length_take]; omega
      rw [e, br_dt (by omega), br_df (by omega)]
end Go.BB
