/- A symbolic machine for the model's code, and what it shows of this seat's functions. No conditions. -/
import Derived.Test.YteaomngbkklfoaaRGspan
import Derived.Test.YteaomngbkklfoaaRVbuff2
import Derived.Test.YteaomngbkklfoaaRLSpan
set_option linter.unusedSimpArgs false
set_option linter.unusedVariables false
namespace Go.BB
open Go Go.Proofs
set_option maxRecDepth 100000
theorem v_spanAhead : Valid Try.prog n_spanAhead c_spanAhead := by
  refine valid_fn mixed hf_spanAhead (by kernel_rfl) rfl (ts := tmpsOf f_spanAhead.results.toList) (by kernel_rfl) (cfg := cfgW g_spanAhead) tt_ok Γok_nil spanAhead_tm c_spanAhead (by kernel_rfl) (fun _ _ _ _ => ⟨⟩) ?_
  rintro ⟨(a : Spn), (b : Spn), ⟨⟩⟩ r u h
  have hA : spanAhead_P 0 a b = some ((aheadS a b, ()), (), (), ()) := by
    unfold spanAhead_P
    by_cases h1 : a.1 < b.1
    · rw [br_dt h1, aheadS_iff.2 (.inl h1)]
    · rw [br_df h1]
      by_cases h2 : a.1 = b.1
      · rw [br_t (beq_iff_eq.2 h2)]
        unfold aheadS
        rw [decide_eq_false h1, decide_eq_true h2, Bool.false_or, Bool.true_and]
      · rw [br_f (beq_eq_false_iff_ne.2 h2), aheadS_not.2 (by omega)]
  exact ⟨0, (spanAhead_rn _ _ _).trans (hA.trans h)⟩
theorem v_spanAdd : Valid Try.prog n_spanAdd c_spanAdd := by
  refine valid_fn mixed hf_spanAdd (by kernel_rfl) rfl (ts := tmpsOf f_spanAdd.results.toList) (by kernel_rfl) (cfg := cfgW g_spanAdd) tt_ok (Γok_cons v_spanAhead Γok_nil) spanAdd_tm c_spanAdd (by kernel_rfl) (fun _ _ _ _ => ⟨⟩) ?_
  rintro ⟨(l : List Spn), (s0 : Spn), ⟨⟩⟩ r u h
  obtain ⟨h1, h2⟩ := grd_some h
  simp only [Bool.and_eq_true] at h1 h2
  have hl := lenOk_lt h1.1
  refine ⟨l.length + 1, (spanAdd_rn _ _ _).trans (Eq.trans ?_ (congrArg some h2))⟩
  unfold spanAdd_P
  rw [wrapI (n := (l.length : Int) + 1) (by omega) (by omega), br_dt (by omega), br_dt (lim_mul (by omega) (by decide)), br_dt (lim_le (by omega))]
  refine loopN_meas (step := spanAdd_L1) (fun x => l.length - x.2.2.2.2.2.1.toNat) (fun x => ∃ (i : Nat) (A B : List Spn) (s : Spn), i ≤ l.length ∧ spanR s = true ∧ A.length + B.length ≤ i ∧
    x = ((s.1, s.2.1, s.2.2, ()), A ++ B, (A.length : Int), l, (l.length : Int), (i : Int), ()) ∧
    ((B = [] ∧ addGo l s0 = A ++ addGo (l.drop i) s) ∨ ((∀ y ∈ l.drop i, aheadS s y = true) ∧ addGo l s0 = A ++ s :: (B ++ l.drop i)))) (fun _ => some ((addGo l s0, ()), (), (), ())) ?_ _ _
    ⟨0, [], [], s0, by omega, h1.2.2, by simp, rfl, .inl ⟨rfl, rfl⟩⟩ (by simp only; omega)
  rintro x ⟨i, A, B, s, hi, hs, hAB, rfl, hr⟩ rec hrec
  simp only [spanAdd_L1, Int.toNat_natCast, sp_eta]
  by_cases h : i < l.length
  · have hd := drop_cons l i ((0, 0, 0) : Spn) h
    have hc := canonS_drop i h1.2.1
    rw [br_dt (by omega), br_dt (by omega), br_dt (by omega), wrapI (n := (i : Int) + 1) (by omega) (by omega)]
    generalize l.getD i (0, 0, 0) = c at hd
    rw [hd] at hr hc
    have hc' := canonS_iff.1 hc
    have eN : ((i : Int) + 1) = ((i + 1 : Nat) : Int) := by omega
    cases ha : aheadS c s with
    | true =>
      rw [br_t rfl, br_dt (lim_mul (by simp; omega) (by decide)), br_dt (lim_le (by simp; omega))]
      rcases hr with ⟨hB, hr⟩ | ⟨hr1, hr2⟩
      · subst hB
        refine hrec _ ⟨i + 1, A ++ [c], [], s, by omega, hs, by simp at hAB ⊢; omega, ?_, .inl ⟨rfl, ?_⟩⟩ (by simp only; omega)
        · rw [eN, List.append_nil, List.append_nil]; rfl
        · rw [hr]
          show A ++ addGo (c :: List.drop (i + 1) l) s = _
          rw [addGo, if_pos ha, List.append_assoc]; rfl
      · have := aheadS_asymm hc'.1 hs ha
        rw [hr1 c List.mem_cons_self] at this; cases this
    | false =>
      rw [br_f rfl]
      cases hb : aheadS s c with
      | true =>
        rw [br_t rfl, br_dt (lim_mul (by simp; omega) (by decide)), br_dt (lim_le (by simp; omega))]
        refine hrec _ ⟨i + 1, A, B ++ [c], s, by omega, hs, by simp; omega, ?_, .inr ?_⟩ (by simp only; omega)
        · rw [eN, ← List.append_assoc]; rfl
        · rcases hr with ⟨hB, hr⟩ | ⟨hr1, hr2⟩
          · subst hB
            refine ⟨fun y hy => aheadS_trans hc'.1 hb (hc'.2.1 y hy), ?_⟩
            rw [hr, addGo, if_neg (by rw [ha]; decide), if_pos hb]; rfl
          · refine ⟨fun y hy => hr1 y (List.mem_cons_of_mem _ hy), ?_⟩
            rw [hr2]; simp
      | false =>
        rw [br_f rfl]
        rcases hr with ⟨hB, hr⟩ | ⟨hr1, hr2⟩
        · subst hB
          refine hrec _ ⟨i + 1, A, [], mergeS s c, by omega, spanR_merge hs hc'.1, by simp at hAB ⊢; omega, ?_, .inl ⟨rfl, ?_⟩⟩ (by simp only; omega)
          · rw [eN, minI_eq, maxI_eq]; rfl
          · rw [hr, addGo, if_neg (by rw [ha]; decide), if_neg (by rw [hb]; decide)]
        · rw [hr1 c List.mem_cons_self] at hb; cases hb
  · have ei : i = l.length := by omega
    subst ei
    have he : addGo l s0 = A ++ s :: B := by
      rw [List.drop_length] at hr
      rcases hr with ⟨hB, hr⟩ | ⟨hr1, hr2⟩
      · subst hB; exact hr
      · rw [hr2, List.append_nil]
    have hz : (cat (A ++ B) [s]).length = A.length + B.length + 1 := by simp [cat]; omega
    rw [br_df (by omega), br_dt (lim_mul (by simp; omega) (by decide)), br_dt (lim_le (by simp; omega)), wrapI (n := (A.length : Int) + 1) (by omega) (by omega), hz, br_dt (by omega), br_dt (by omega), br_dt (by omega), br_dt (by omega), br_dt (by omega)]
    have e1 : ((A.length : Int) + 1).toNat = A.length + 1 := by omega
    have e2 : A.length + B.length + 1 = (A ++ B ++ [s]).length := by simp; omega
    rw [e1, e2]
    show br (decide ((A.length : Int) < ((splice (A ++ B ++ [s]) _ _ _).length : Int))) _ _ = _
    have e3 := ins_eq A B s
    have e4 : (splice (A ++ B ++ [s]) (List.take ((A ++ B ++ [s]).length - A.length) (List.drop A.length (A ++ B ++ [s]))) (A.length + 1) ((A ++ B ++ [s]).length - (A.length + 1))).length = A.length + B.length + 1 := by
      have := congrArg List.length e3
      rw [List.length_set] at this
      rw [this]; simp; omega
    rw [he, ← e3]
    refine (br_dt (Int.ofNat_lt.2 (Nat.lt_of_lt_of_eq (by omega : A.length < A.length + B.length + 1) e4.symm))).trans ?_
    rfl
theorem v_rspanAdd : Valid Try.prog n_rspanAdd c_rspanAdd := by
  refine valid_fn mixed hf_rspanAdd (by kernel_rfl) rfl (ts := tmpsOf f_rspanAdd.results.toList) (by kernel_rfl) (cfg := cfgW g_rspanAdd) tt_ok Γok_nil rspanAdd_tm c_rspanAdd (by kernel_rfl) (fun _ _ _ _ => ⟨⟩) ?_
  rintro ⟨(l : List Spn), (s0 : Spn), ⟨⟩⟩ r u h
  obtain ⟨h1, h2⟩ := grd_some h
  simp only [Bool.and_eq_true] at h1 h2
  have hl := lenOk_lt h1.1
  refine ⟨l.length + 1, (rspanAdd_rn _ _ _).trans (Eq.trans ?_ (congrArg some h2))⟩
  unfold rspanAdd_P
  refine loopN_meas (step := rspanAdd_L1) (fun x => l.length - x.2.2.2.2.1.toNat) (fun x => ∃ (i : Nat) (A B : List Spn) (s : Spn), i ≤ l.length ∧ spanR s = true ∧ A.length + B.length ≤ i ∧
    x = (l, (s.1, s.2.1, s.2.2, ()), A, B, (i : Int), ()) ∧
    ((B = [] ∧ addGo l s0 = A ++ addGo (l.drop i) s) ∨ ((∀ y ∈ l.drop i, aheadS s y = true) ∧ addGo l s0 = A ++ s :: (B ++ l.drop i)))) (fun _ => some ((addGo l s0, ()), (), (), ())) ?_ _ _
    ⟨0, [], [], s0, by omega, h1.2.2, by simp, rfl, .inl ⟨rfl, rfl⟩⟩ (by simp only; omega)
  rintro x ⟨i, A, B, s, hi, hs, hAB, rfl, hr⟩ rec hrec
  simp only [rspanAdd_L1, Int.toNat_natCast, sp_eta]
  by_cases h : i < l.length
  · have hd := drop_cons l i ((0, 0, 0) : Spn) h
    have hc := canonS_drop i h1.2.1
    rw [br_dt (by omega), br_dt (by omega), br_dt (by omega), wrapI (n := (i : Int) + 1) (by omega) (by omega)]
    rw [hd] at hr hc
    have hc' := canonS_iff.1 hc
    have eN : ((i : Int) + 1) = ((i + 1 : Nat) : Int) := by omega
    have goA : aheadS (l.getD i (0, 0, 0)) s = true → br (decide ((A.length + [(l.getD i (0, 0, 0))].length) * 24 ≤ LIM)) (br (decide (A.length + [(l.getD i (0, 0, 0))].length ≤ LIM)) (rec (l, (s.1, s.2.1, s.2.2, ()), cat A [(l.getD i (0, 0, 0))], B, (i : Int) + 1, ())) none) none = some ((addGo l s0, ()), (), (), ()) := by
      intro ha
      rw [br_dt (lim_mul (by simp; omega) (by decide)), br_dt (lim_le (by simp; omega))]
      rcases hr with ⟨hB, hr⟩ | ⟨hr1, hr2⟩
      · subst hB
        refine hrec _ ⟨i + 1, A ++ [(l.getD i (0, 0, 0))], [], s, by omega, hs, by simp at hAB ⊢; omega, ?_, .inl ⟨rfl, ?_⟩⟩ (by simp only; omega)
        · rw [eN]; rfl
        · rw [hr]
          show A ++ addGo ((l.getD i (0, 0, 0)) :: List.drop (i + 1) l) s = _
          rw [addGo, if_pos ha, List.append_assoc]; rfl
      · have := aheadS_asymm hc'.1 hs ha
        rw [hr1 (l.getD i (0, 0, 0)) List.mem_cons_self] at this; cases this
    have goB : aheadS (l.getD i (0, 0, 0)) s = false → aheadS s (l.getD i (0, 0, 0)) = true → br (decide ((B.length + [(l.getD i (0, 0, 0))].length) * 24 ≤ LIM)) (br (decide (B.length + [(l.getD i (0, 0, 0))].length ≤ LIM)) (rec (l, (s.1, s.2.1, s.2.2, ()), A, cat B [(l.getD i (0, 0, 0))], (i : Int) + 1, ())) none) none = some ((addGo l s0, ()), (), (), ()) := by
      intro ha hb
      rw [br_dt (lim_mul (by simp; omega) (by decide)), br_dt (lim_le (by simp; omega))]
      refine hrec _ ⟨i + 1, A, B ++ [(l.getD i (0, 0, 0))], s, by omega, hs, by simp; omega, ?_, .inr ?_⟩ (by simp only; omega)
      · rw [eN]; rfl
      · rcases hr with ⟨hB, hr⟩ | ⟨hr1, hr2⟩
        · subst hB
          refine ⟨fun y hy => aheadS_trans hc'.1 hb (hc'.2.1 y hy), ?_⟩
          rw [hr, addGo, if_neg (by rw [ha]; decide), if_pos hb]; rfl
        · refine ⟨fun y hy => hr1 y (List.mem_cons_of_mem _ hy), ?_⟩
          rw [hr2]; simp
    have goC : aheadS (l.getD i (0, 0, 0)) s = false → aheadS s (l.getD i (0, 0, 0)) = false → rec (l, (s.1, minI s.2.1 (l.getD i (0, 0, 0)).2.1, maxI s.2.2 (l.getD i (0, 0, 0)).2.2, ()), A, B, (i : Int) + 1, ()) = some ((addGo l s0, ()), (), (), ()) := by
      intro ha hb
      rcases hr with ⟨hB, hr⟩ | ⟨hr1, hr2⟩
      · subst hB
        refine hrec _ ⟨i + 1, A, [], mergeS s (l.getD i (0, 0, 0)), by omega, spanR_merge hs hc'.1, by simp at hAB ⊢; omega, ?_, .inl ⟨rfl, ?_⟩⟩ (by simp only; omega)
        · rw [eN, minI_eq, maxI_eq]; rfl
        · rw [hr, addGo, if_neg (by rw [ha]; decide), if_neg (by rw [hb]; decide)]
      · rw [hr1 (l.getD i (0, 0, 0)) List.mem_cons_self] at hb; cases hb
    by_cases c1 : (l.getD i (0, 0, 0)).1 < s.1
    · rw [br_dt c1]; exact goA (aheadS_iff.2 (.inl c1))
    · rw [br_df c1]
      by_cases c2 : (l.getD i (0, 0, 0)).1 = s.1
      · rw [br_t (beq_iff_eq.2 c2)]
        by_cases c3 : (l.getD i (0, 0, 0)).2.2 < s.2.1
        · rw [br_dt c3]; exact goA (aheadS_iff.2 (.inr ⟨c2, c3⟩))
        · rw [br_df c3, br_df (by omega)]
          by_cases c4 : (l.getD i (0, 0, 0)).2.1 > s.2.2
          · rw [br_dt c4]; exact goB (aheadS_not.2 (by omega)) (aheadS_iff.2 (.inr ⟨c2.symm, c4⟩))
          · rw [br_df c4]; exact goC (aheadS_not.2 (by omega)) (aheadS_not.2 (by omega))
      · rw [br_f (beq_eq_false_iff_ne.2 c2), br_dt (by omega)]
        exact goB (aheadS_not.2 (by omega)) (aheadS_iff.2 (.inl (by omega)))
  · have ei : i = l.length := by omega
    subst ei
    have he : addGo l s0 = A ++ s :: B := by
      rw [List.drop_length] at hr
      rcases hr with ⟨hB, hr⟩ | ⟨hr1, hr2⟩
      · subst hB; exact hr
      · rw [hr2, List.append_nil]
    rw [br_df (by omega), he]
    rw [br_dt (lim_mul (by simp; omega) (by decide)), br_dt (lim_le (by simp; omega))]
    rw [br_dt (lim_mul (by simp [cat]; omega) (by decide)), br_dt (lim_le (by simp [cat]; omega))]
    simp [cat]
theorem v_rcovers : Valid Try.prog n_rcovers c_rcovers := by
  refine valid_fn mixed hf_rcovers (by kernel_rfl) rfl (ts := tmpsOf f_rcovers.results.toList) (by kernel_rfl) (cfg := cfgW g_rcovers) tt_ok Γok_nil rcovers_tm c_rcovers (by kernel_rfl) (fun _ _ _ _ => ⟨⟩) ?_
  rintro ⟨(l : List Spn), (s : Spn), ⟨⟩⟩ r u h
  obtain ⟨h1, h2⟩ := grd_some h
  simp only at h1 h2
  have hl := lenOk_lt h1
  refine ⟨l.length + 1, (rcovers_rn _ _ _).trans (Eq.trans ?_ (congrArg some h2))⟩
  unfold rcovers_P
  refine loopN_meas (step := rcovers_L1) (fun x => l.length - x.2.2.1.toNat) (fun x => ∃ (i : Nat), i ≤ l.length ∧ x = (l, (s.1, s.2.1, s.2.2, ()), (i : Int), ()) ∧ coverS l s = coverS (l.drop i) s) (fun _ => some ((coverS l s, ()), (), (), ())) ?_ _ _
    ⟨0, by omega, rfl, rfl⟩ (by simp only; omega)
  rintro x ⟨i, hi, rfl, hr⟩ rec hrec
  simp only [rcovers_L1, Int.toNat_natCast]
  by_cases h : i < l.length
  · rw [br_dt (by omega), br_dt (by omega), br_dt (by omega), wrapI (n := (i : Int) + 1) (by omega) (by omega), br_dt (by omega), br_dt (by omega)]
    rw [drop_cons l i ((0, 0, 0) : Spn) h] at hr
    have hgo : coverS l s = coverS (l.drop (i + 1)) s → rec (l, (s.1, s.2.1, s.2.2, ()), (i : Int) + 1, ()) = some ((coverS l s, ()), (), (), ()) := fun he =>
      hrec _ ⟨i + 1, by omega, by rw [show ((i + 1 : Nat) : Int) = (i : Int) + 1 by omega], he⟩ (by simp only; omega)
    have hr' : coverS l s = ((decide ((l.getD i (0, 0, 0)).1 = s.1) && (decide ((l.getD i (0, 0, 0)).2.1 ≤ s.2.1) && decide (s.2.2 ≤ (l.getD i (0, 0, 0)).2.2))) || coverS (l.drop (i + 1)) s) := hr
    by_cases c1 : (l.getD i (0, 0, 0)).1 = s.1
    · rw [br_t (beq_iff_eq.2 c1)]
      by_cases c2 : (l.getD i (0, 0, 0)).2.1 ≤ s.2.1
      · rw [br_dt c2, br_dt (by omega), br_dt (by omega)]
        by_cases c3 : s.2.2 ≤ (l.getD i (0, 0, 0)).2.2
        · rw [br_dt c3, hr', decide_eq_true c1, decide_eq_true c2, decide_eq_true c3]; rfl
        · rw [br_df c3]
          exact hgo (by rw [hr', decide_eq_false c3]; simp)
      · rw [br_df c2]
        exact hgo (by rw [hr', decide_eq_false c2]; simp)
    · rw [br_f (beq_eq_false_iff_ne.2 c1)]
      exact hgo (by rw [hr', decide_eq_false c1]; simp)
  · rw [br_df (by omega), hr, List.drop_eq_nil_of_le (by omega)]
    rfl
theorem v_spans : Valid Try.prog n_spans c_spans := by
  refine valid_fn mixed hf_spans (by kernel_rfl) rfl (ts := tmpsOf f_spans.results.toList) (by kernel_rfl) (cfg := cfgW g_spans) tt_ok (Γok_cons v_span (Γok_cons v_rspanAdd Γok_nil)) spans_tm c_spans (by kernel_rfl) (fun _ _ _ _ => ⟨⟩) ?_
  rintro ⟨(l : List Int), ⟨⟩⟩ r u h
  refine ⟨21, (spans_rn _ _).trans (Eq.trans ?_ h)⟩
  unfold spans_P
  have hfold : ∀ i, i ≤ l.length → i ≤ 20 → (((l.take 20).take i).foldl (fun l k => addGo l (spanS k)) []) = (l.take i).foldl (fun l k => addGo l (spanS k)) [] := by
    intro i h1 h2
    rw [List.take_take, Nat.min_eq_left h2]
  have hst : ∀ i, i ≤ 20 → canonS ((l.take i).foldl (fun l k => addGo l (spanS k)) []) = true ∧ ((l.take i).foldl (fun l k => addGo l (spanS k)) []).length ≤ 20 := by
    intro i hi
    have h1 := spansS_canon (l.take i)
    have h2 := spansS_len (l.take i)
    unfold spansS at h1 h2
    rw [List.take_take, Nat.min_eq_right hi] at h1 h2
    exact ⟨h1, h2⟩
  refine loopN_for (step := spans_L1) (min l.length 20) (fun i => (l, (l.take i).foldl (fun l k => addGo l (spanS k)) [], (i : Int), ())) (fun i hi rec => ?_) (fun rec => ?_) _ (by omega)
  · obtain ⟨g1, g2⟩ := hst i (by omega)
    simp only [spans_L1, Int.toNat_natCast, sp_eta]
    rw [br_dt (by omega), br_dt (by omega), br_dt (by omega), br_dt (by omega), bd_grd (and_t (lenOk_of (Nat.lt_of_le_of_lt g2 (by decide))) (and_t g1 (spanS_ok _))), wrapI (n := (i : Int) + 1) (by omega) (by omega), take_snoc l i (0 : Int) (by omega), List.foldl_append]
    rfl
  · simp only [spans_L1]
    by_cases hc : l.length ≤ 20
    · rw [Nat.min_eq_left hc, br_df (by omega), List.take_length]
      unfold spansS
      rw [List.take_of_length_le hc]
      rfl
    · rw [Nat.min_eq_right (by omega), br_dt (by omega), br_df (by omega)]
      rfl
where
  and_t {a b : Bool} (h1 : a = true) (h2 : b = true) : (a && b) = true := by rw [h1, h2]; rfl
  lenOk_of {α : Type} {l : List α} (h : l.length < 1000000) : lenOk l = true := decide_eq_true h
end Go.BB
