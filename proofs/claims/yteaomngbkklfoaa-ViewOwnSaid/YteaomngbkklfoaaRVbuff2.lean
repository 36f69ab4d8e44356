/- A symbolic machine for the model's code, and what it shows of this seat's functions. No conditions. -/
import Derived.Test.YteaomngbkklfoaaRVbuff
set_option linter.unusedSimpArgs false
set_option linter.unusedVariables false
namespace Go.BB
open Go Go.Proofs
set_option maxRecDepth 100000
theorem sp_eta (x : Spn) : (x.1, x.2.1, x.2.2) = x := rfl
/-- what is left from an address on -/
def tailS (t f to : Int) : List Spn := if f < to then [(t, f, to)] else []
theorem restGo_nil (t to f : Int) : restGo t to [] f = tailS t f to := rfl
theorem restGo_in {t to : Int} {c : Cel} {l : List Cel} {f : Int} (h : c.1.1 = t ∧ c.1.2 < to) : restGo t to (c :: l) f = tailS t f c.1.2 ++ restGo t to l (c.1.2 + 1) := by
  simp only [restGo, if_pos h]; rfl
theorem restGo_out {t to : Int} {c : Cel} {l : List Cel} {f : Int} (h : ¬ (c.1.1 = t ∧ c.1.2 < to)) : restGo t to (c :: l) f = tailS t f to := by
  simp only [restGo, if_neg h]; rfl
theorem tailS_len (t f to : Int) : (tailS t f to).length ≤ 1 := by unfold tailS; split <;> simp
theorem cntK_ge {l : List Cel} (hb : bufS l = true) (k : Key) (i : Nat) (z : Cel) (hi : i < l.length) (h : cntK l k ≤ i) : keyLt (l.getD i z).1 k = false := by
  cases hk : keyLt (l.getD i z).1 k with
  | false => rfl
  | true => have := (cntK_iff hb k i z hi).1 hk; omega
theorem app_tail {α : Type} {t f to : Int} {y : List Spn} {K : List Spn → Option α} (hy : y.length < 1500000) :
    br (decide (f < to)) (br (decide ((y.length + [(t, f, to)].length) * 24 ≤ LIM)) (br (decide (y.length + [(t, f, to)].length ≤ LIM)) (K (cat y [(t, f, to)])) none) none) (K y) = K (y ++ tailS t f to) := by
  unfold tailS
  by_cases h : f < to
  · rw [br_dt h, br_dt (lim_mul (by simp; omega) (by decide)), br_dt (lim_le (by simp; omega)), if_pos h]; rfl
  · rw [br_df h, if_neg h, List.append_nil]
theorem v_rest : Valid Try.prog n_rest c_rest := by
  refine valid_fn mixed hf_rest (by kernel_rfl) rfl (ts := tmpsOf f_rest.results.toList) (by kernel_rfl) (cfg := cfgW g_rest) tt_ok (Γok_cons v_bfind Γok_nil) rest_tm c_rest (by kernel_rfl) (fun _ _ _ _ => ⟨⟩) ?_
  rintro ⟨(l : List Cel), (s : Spn), ⟨⟩⟩ r u h
  obtain ⟨h1, h2⟩ := grd_some h
  simp only [Bool.and_eq_true] at h1 h2
  have hl := lenOk_lt h1.1
  have hs := spanR_iff.1 h1.2.2
  refine ⟨l.length + 1, (rest_rn _ _ _).trans (Eq.trans ?_ (congrArg some h2))⟩
  unfold rest_P
  rw [bd_grd (by rw [h1.1, h1.2.1]; rfl)]
  simp only
  have hc := cntK_le l (s.1, s.2.1)
  refine loopN_meas (step := rest_L1) (fun x => l.length - x.2.2.2.2.1.toNat) (fun x => ∃ (i : Nat) (f : Int) (o : List Spn), cntK l (s.1, s.2.1) ≤ i ∧ i ≤ l.length ∧ s.2.1 ≤ f ∧ f ≤ 65536 ∧ o.length ≤ i ∧ x = (l, (s.1, s.2.1, s.2.2, ()), o, f, (i : Int), ()) ∧ restS l s = o ++ restGo s.1 s.2.2 (l.drop i) f) (fun _ => some ((restS l s, ()), (), (), ())) ?_ _ _ ⟨cntK l (s.1, s.2.1), s.2.1, [], by omega, hc, by omega, by omega, by simp, rfl, rfl⟩ (by simp only [Int.toNat_natCast]; omega)
  rintro x ⟨i, f, o, hci, hi, hf, hf2, ho, rfl, hr⟩ rec hrec
  simp only [rest_L1, Int.toNat_natCast]
  by_cases h : i < l.length
  · rw [br_dt (by omega), br_dt (by omega), br_dt (by omega), br_dt (by omega), br_dt (by omega)]
    rw [drop_cons l i ((0, 0), 0) h] at hr
    have hge := cntK_ge h1.2.1 (s.1, s.2.1) i ((0, 0), 0) h hci
    rw [keyLt_false] at hge
    simp only at hge
    by_cases ht : (l.getD i ((0, 0), 0)).1.1 = s.1
    · rw [br_t (beq_iff_eq.2 ht)]
      by_cases hto : (l.getD i ((0, 0), 0)).1.2 < s.2.2
      · rw [br_dt hto, br_dt (by omega), br_dt (by omega)]
        rw [restGo_in ⟨ht, hto⟩] at hr
        rw [wrapI (n := (l.getD i ((0, 0), 0)).1.2 + 1) (by omega) (by omega), wrapI (n := (i : Int) + 1) (by omega) (by omega)]
        have htl := tailS_len s.1 f (l.getD i ((0, 0), 0)).1.2
        refine (app_tail (t := s.1) (f := f) (to := (l.getD i ((0, 0), 0)).1.2) (y := o) (K := fun z => rec (l, (s.1, s.2.1, s.2.2, ()), z, (l.getD i ((0, 0), 0)).1.2 + 1, (i : Int) + 1, ())) (by omega)).trans ?_
        exact hrec _ ⟨i + 1, (l.getD i ((0, 0), 0)).1.2 + 1, o ++ tailS s.1 f (l.getD i ((0, 0), 0)).1.2, by omega, by omega, by omega, by omega, by rw [List.length_append]; omega, by simp, by rw [hr, List.append_assoc]⟩ (by simp only; omega)
      · rw [br_df hto]
        rw [restGo_out (by rintro ⟨_, h⟩; exact hto h)] at hr
        rw [hr]
        exact app_tail (t := s.1) (f := f) (to := s.2.2) (y := o) (K := fun z => some ((z, ()), (), (), ())) (by omega)
    · rw [br_f (beq_eq_false_iff_ne.2 ht)]
      rw [restGo_out (by rintro ⟨h, _⟩; exact ht h)] at hr
      rw [hr]
      exact app_tail (t := s.1) (f := f) (to := s.2.2) (y := o) (K := fun z => some ((z, ()), (), (), ())) (by omega)
  · rw [br_df (by omega)]
    rw [List.drop_eq_nil_of_le (by omega), restGo_nil] at hr
    rw [hr]
    exact app_tail (t := s.1) (f := f) (to := s.2.2) (y := o) (K := fun z => some ((z, ()), (), (), ())) (by omega)
theorem cut1_len (x s : Spn) : (cut1 x s).length ≤ 2 := by
  unfold cut1
  repeat' split
  all_goals simp
theorem cutS_snoc (l : List Spn) (x s : Spn) : cutS (l ++ [x]) s = cutS l s ++ cut1 x s := by simp [cutS]
theorem cutS_len (s : Spn) : ∀ l, (cutS l s).length ≤ 2 * l.length
  | [] => by simp [cutS]
  | x :: l => by
    have h1 := cutS_len s l
    have h2 := cut1_len x s
    unfold cutS at h1 ⊢
    rw [List.flatMap_cons, List.length_append, List.length_cons]
    omega
theorem v_rcut : Valid Try.prog n_rcut c_rcut := by
  refine valid_fn mixed hf_rcut (by kernel_rfl) rfl (ts := tmpsOf f_rcut.results.toList) (by kernel_rfl) (cfg := cfgW g_rcut) tt_ok Γok_nil rcut_tm c_rcut (by kernel_rfl) (fun _ _ _ _ => ⟨⟩) ?_
  rintro ⟨(l : List Spn), (s : Spn), ⟨⟩⟩ r u h
  obtain ⟨h1, h2⟩ := grd_some h
  simp only at h1 h2
  have hl := lenOk_lt h1
  refine ⟨l.length + 1, (rcut_rn _ _ _).trans (Eq.trans ?_ (congrArg some h2))⟩
  unfold rcut_P
  refine loopN_for (step := rcut_L1) l.length (fun i => (l, (s.1, s.2.1, s.2.2, ()), cutS (l.take i) s, (i : Int), ())) (fun i hi rec => ?_) (fun rec => ?_) _ (by omega)
  · have hlen : (cutS (l.take i) s).length < 1999998 := by
      have := cutS_len s (l.take i)
      rw [List.length_take] at this
      omega
    simp only [rcut_L1, Int.toNat_natCast, sp_eta]
    rw [br_dt (by omega), br_dt (by omega), br_dt (by omega), wrapI (n := (i : Int) + 1) (by omega) (by omega), take_snoc l i ((0, 0, 0)) hi, cutS_snoc]
    have hone : ∀ z : Spn, br (decide (((cutS (l.take i) s).length + [z].length) * 24 ≤ LIM)) (br (decide ((cutS (l.take i) s).length + [z].length ≤ LIM)) (rec (l, (s.1, s.2.1, s.2.2, ()), cat (cutS (l.take i) s) [z], (i : Int) + 1, ())) none) none = rec (l, (s.1, s.2.1, s.2.2, ()), cutS (l.take i) s ++ [z], ((i + 1 : Nat) : Int), ()) := by
      intro z
      rw [br_dt (lim_mul (by simp; omega) (by decide)), br_dt (lim_le (by simp; omega))]
      rfl
    unfold cut1
    by_cases c1 : (l.getD i (0, 0, 0)).1 = s.1
    · rw [br_f (by rw [bne, beq_iff_eq.2 c1]; rfl)]
      by_cases c2 : (l.getD i (0, 0, 0)).2.2 ≤ s.2.1
      · rw [br_dt c2, hone, if_pos (.inr (.inl c2))]
      · rw [br_df c2]
        by_cases c3 : (l.getD i (0, 0, 0)).2.1 ≥ s.2.2
        · rw [br_dt c3, hone, if_pos (.inr (.inr c3))]
        · rw [br_df c3, if_neg (fun h => h.elim (fun h => h c1) (fun h => h.elim c2 c3))]
          by_cases c4 : (l.getD i (0, 0, 0)).2.1 < s.2.1
          · rw [br_dt c4, if_pos c4]
            by_cases c5 : (l.getD i (0, 0, 0)).2.2 > s.2.2
            · rw [br_dt (lim_mul (by simp; omega) (by decide)), br_dt (lim_le (by simp; omega)), br_dt c5, if_pos c5, br_dt (lim_mul (by simp [cat]; omega) (by decide)), br_dt (lim_le (by simp [cat]; omega))]
              simp [cat]
            · rw [br_df c5, if_neg c5, List.append_nil]
              exact hone _
          · rw [br_df c4, if_neg c4, List.nil_append]
            by_cases c5 : (l.getD i (0, 0, 0)).2.2 > s.2.2
            · rw [br_dt c5, if_pos c5]
              exact hone _
            · rw [br_df c5, if_neg c5, List.append_nil]
              rfl
    · rw [br_t (bne_iff_ne.2 c1), hone, if_pos (.inl c1)]
  · simp only [rcut_L1]
    rw [br_df (by omega), List.take_length]
    rfl
theorem cutS_app (a b : List Spn) (s : Spn) : cutS (a ++ b) s = cutS a s ++ cutS b s := by simp [cutS]
theorem cutS_past {t a e : Int} : ∀ {l : List Spn}, (∀ x ∈ l, x.2.2 ≤ a) → cutS l (t, a, e) = l
  | [], _ => rfl
  | x :: l, h => by
    have ih := cutS_past (t := t) (a := a) (e := e) (l := l) fun y hy => h y (List.mem_cons_of_mem _ hy)
    unfold cutS at ih ⊢
    rw [List.flatMap_cons, ih]
    have : cut1 x (t, a, e) = [x] := by
      unfold cut1
      rw [if_pos (.inr (.inl (h x List.mem_cons_self)))]
    rw [this]; rfl
theorem cutS_tail {t f to a : Int} (h1 : f ≤ a) (h2 : a < to) : cutS (tailS t f to) (t, a, a + 1) = tailS t f a ++ tailS t (a + 1) to := by
  unfold tailS
  rw [if_pos (by omega)]
  simp only [cutS, List.flatMap_cons, List.flatMap_nil, List.append_nil, cut1]
  rw [if_neg (fun h => h.elim (fun h => h rfl) (fun h => h.elim (fun h => by omega) (fun h => by omega)))]
theorem restGo_past {t to : Int} {l : List Cel} {f : Int} (h : ∀ c ∈ l, ¬ (c.1.1 = t ∧ c.1.2 < to)) : restGo t to l f = tailS t f to := by
  cases l with
  | nil => rfl
  | cons c l => exact restGo_out (h c List.mem_cons_self)
theorem v_rrest : Valid Try.prog n_rrest c_rrest := by
  refine valid_fn mixed hf_rrest (by kernel_rfl) rfl (ts := tmpsOf f_rrest.results.toList) (by kernel_rfl) (cfg := cfgW g_rrest) tt_ok (Γok_cons v_rcut Γok_nil) rrest_tm c_rrest (by kernel_rfl) (fun _ _ _ _ => ⟨⟩) ?_
  rintro ⟨(l : List Cel), (s : Spn), ⟨⟩⟩ r u h
  obtain ⟨h1, h2⟩ := grd_some h
  simp only [Bool.and_eq_true] at h1 h2
  have hl := lenOk_lt h1.1
  have hs := spanR_iff.1 h1.2.2
  refine ⟨l.length + 1, (rrest_rn _ _ _).trans (Eq.trans ?_ (congrArg some h2))⟩
  unfold rrest_P
  have hc := cntK_le l (s.1, s.2.1)
  refine loopN_meas (step := rrest_L1) (fun x => l.length - x.2.2.2.1.toNat) (fun x => ∃ (i : Nat) (f : Int) (o : List Spn), i ≤ l.length ∧ s.2.1 ≤ f ∧ o.length ≤ i ∧ (∀ y ∈ o, y.2.2 ≤ f) ∧
    x = (l, (s.1, s.2.1, s.2.2, ()), o ++ tailS s.1 f s.2.2, (i : Int), ()) ∧ restS l s = o ++ restGo s.1 s.2.2 (l.drop (max i (cntK l (s.1, s.2.1)))) f ∧
    (i < cntK l (s.1, s.2.1) → f = s.2.1) ∧ (∀ j, i ≤ j → cntK l (s.1, s.2.1) ≤ j → j < l.length → keyLt (l.getD j ((0, 0), 0)).1 (s.1, f) = false)) (fun _ => some ((restS l s, ()), (), (), ())) ?_ _ _
    ⟨0, s.2.1, [], by omega, by omega, by simp, by simp, by simp [tailS, hs.2.2.2.2], by simp [restS], fun _ => rfl, fun j _ hj hjl => cntK_ge h1.2.1 _ j _ hjl hj⟩ (by simp only; omega)
  rintro x ⟨i, f, o, hi, hf, ho, hof, rfl, hr, hfi, hge⟩ rec hrec
  simp only [rrest_L1, Int.toNat_natCast]
  by_cases h : i < l.length
  · rw [br_dt (by omega), br_dt (by omega), br_dt (by omega), wrapI (n := (i : Int) + 1) (by omega) (by omega)]
    have eN : ((i : Int) + 1) = ((i + 1 : Nat) : Int) := by omega
    by_cases hcnt : i < cntK l (s.1, s.2.1)
    · -- ahead of the span
      have hlt := cntK_lt l (s.1, s.2.1) i ((0, 0), 0) hcnt
      have hskip : rec (l, (s.1, s.2.1, s.2.2, ()), o ++ tailS s.1 f s.2.2, (i : Int) + 1, ()) = some ((restS l s, ()), (), (), ()) := by
        refine hrec _ ⟨i + 1, f, o, by omega, hf, by omega, hof, by rw [eN], ?_, fun _ => hfi hcnt, fun j hj hcj hjl => hge j (by omega) hcj hjl⟩ (by simp only; omega)
        rw [hr, Nat.max_eq_right (by omega), Nat.max_eq_right (by omega)]
      rw [keyLt_iff] at hlt
      simp only at hlt
      by_cases ht : (l.getD i ((0, 0), 0)).1.1 = s.1
      · rw [br_t (beq_iff_eq.2 ht), br_df (by omega)]
        exact hskip
      · rw [br_f (beq_eq_false_iff_ne.2 ht)]
        exact hskip
    · have hgi := hge i (by omega) (by omega) h
      rw [Nat.max_eq_left (by omega), drop_cons l i ((0, 0), 0) h] at hr
      have hnext : ∀ j, i + 1 ≤ j → j < l.length → keyLt (l.getD i ((0, 0), 0)).1 (l.getD j ((0, 0), 0)).1 = true := fun j hj hjl => bufS_lt h1.2.1 i j _ (by omega) hjl
      rw [keyLt_false] at hgi
      simp only at hgi
      -- a cell that is not of the span
      have hout : ¬ ((l.getD i ((0, 0), 0)).1.1 = s.1 ∧ (l.getD i ((0, 0), 0)).1.2 < s.2.2) → rec (l, (s.1, s.2.1, s.2.2, ()), o ++ tailS s.1 f s.2.2, (i : Int) + 1, ()) = some ((restS l s, ()), (), (), ()) := by
        intro hno
        rw [restGo_out hno] at hr
        refine hrec _ ⟨i + 1, f, o, by omega, hf, by omega, hof, by rw [eN], ?_, fun hh => by omega, fun j hj hcj hjl => hge j (by omega) hcj hjl⟩ (by simp only; omega)
        rw [hr, Nat.max_eq_left (by omega), restGo_past]
        intro c hc
        obtain ⟨j, hj, hjc⟩ := List.mem_iff_getElem?.1 hc |>.imp fun j hj => (⟨j, hj⟩ : ∃ j', (l.drop (i + 1))[j']? = some c) |> fun ⟨j', hj'⟩ => And.intro trivial hj
        rw [List.getElem?_drop] at hjc
        have hjl : i + 1 + j < l.length := (List.getElem?_eq_some_iff.1 hjc).1
        have hn := hnext (i + 1 + j) (by omega) hjl
        have : l.getD (i + 1 + j) ((0, 0), 0) = c := by rw [List.getD_eq_getElem?_getD, hjc]; rfl
        rw [this, keyLt_iff] at hn
        omega
      by_cases ht : (l.getD i ((0, 0), 0)).1.1 = s.1
      · by_cases hto : (l.getD i ((0, 0), 0)).1.2 < s.2.2
        · rw [br_t (beq_iff_eq.2 ht), br_dt (by omega), br_dt hto]
          rw [restGo_in ⟨ht, hto⟩] at hr
          have htl := tailS_len s.1 f s.2.2
          rw [bd_grd (by simp only [lenOk, decide_eq_true_eq, List.length_append]; omega)]
          simp only
          rw [wrapI (n := (l.getD i ((0, 0), 0)).1.2 + 1) (by omega) (by omega), ht, cutS_app, cutS_past (fun y hy => by have := hof y hy; omega), cutS_tail (by omega) hto, ← List.append_assoc]
          have htl2 := tailS_len s.1 f (l.getD i ((0, 0), 0)).1.2
          refine hrec _ ⟨i + 1, (l.getD i ((0, 0), 0)).1.2 + 1, o ++ tailS s.1 f (l.getD i ((0, 0), 0)).1.2, by omega, by omega, by rw [List.length_append]; omega, fun y hy => ?_, by rw [eN], by rw [hr, Nat.max_eq_left (by omega), List.append_assoc], fun hh => by omega, fun j hj hcj hjl => ?_⟩ (by simp only; omega)
          · rcases List.mem_append.1 hy with hy | hy
            · have := hof y hy; omega
            · unfold tailS at hy
              split at hy
              · rw [List.mem_singleton.1 hy]; simp only; omega
              · simp at hy
          · have hn := hnext j hj hjl
            rw [keyLt_iff] at hn
            rw [keyLt_false]
            simp only
            omega
        · rw [br_t (beq_iff_eq.2 ht), br_dt (by omega), br_df hto]
          exact hout fun h => hto h.2
      · rw [br_f (beq_eq_false_iff_ne.2 ht)]
        exact hout fun h => ht h.1
  · rw [br_df (by omega), hr, List.drop_eq_nil_of_le (by omega), restGo_nil]
theorem v_rspanRight : Valid Try.prog n_rspanRight c_rspanRight := by
  refine valid_fn mixed hf_rspanRight (by kernel_rfl) rfl (ts := tmpsOf f_rspanRight.results.toList) (by kernel_rfl) (cfg := cfgW g_rspanRight) tt_ok Γok_nil rspanRight_tm c_rspanRight (by kernel_rfl) (fun _ _ _ _ => ⟨⟩) ?_
  rintro ⟨(s : Spn), ⟨⟩⟩ r u h
  refine ⟨0, (rspanRight_rn _ _).trans (Eq.trans ?_ h)⟩
  show rspanRight_P 0 s = some ((spanR s, ()), (), ())
  unfold rspanRight_P spanR
  by_cases c1 : 0 ≤ s.1
  · rw [br_dt c1, decide_eq_true c1, Bool.true_and]
    by_cases c2 : s.1 < 4
    · rw [br_dt (by omega), decide_eq_true c2, Bool.true_and]
      by_cases c3 : 0 ≤ s.2.1
      · rw [br_dt c3, decide_eq_true c3, Bool.true_and]
        by_cases c4 : s.2.2 ≤ 65536
        · rw [br_dt c4, decide_eq_true c4, Bool.true_and]
        · rw [br_df c4, decide_eq_false c4]; rfl
      · rw [br_df c3, decide_eq_false c3]; rfl
    · rw [br_df (by omega), decide_eq_false c2]; rfl
  · rw [br_df c1, decide_eq_false c1]; rfl
/-- what is still to be looked at behind p -/
def canonA (p : Spn) : List Spn → Bool
  | [] => true
  | b :: l => aheadS p b && canonS (b :: l)
theorem canonS_cons (a : Spn) (l : List Spn) : canonS (a :: l) = (spanR a && canonA a l) := by
  cases l with
  | nil => simp [canonS, canonA]
  | cons b l => simp [canonS, canonA]
theorem v_rcanon : Valid Try.prog n_rcanon c_rcanon := by
  refine valid_fn mixed hf_rcanon (by kernel_rfl) rfl (ts := tmpsOf f_rcanon.results.toList) (by kernel_rfl) (cfg := cfgW g_rcanon) tt_ok (Γok_cons v_rspanRight Γok_nil) rcanon_tm c_rcanon (by kernel_rfl) (fun _ _ _ _ => ⟨⟩) ?_
  rintro ⟨(l : List Spn), ⟨⟩⟩ r u h
  obtain ⟨h1, h2⟩ := grd_some h
  simp only at h1 h2
  have hl := lenOk_lt h1
  refine ⟨l.length + 1, (rcanon_rn _ _).trans (Eq.trans ?_ (congrArg some h2))⟩
  unfold rcanon_P
  refine loopN_meas (step := rcanon_L1) (fun x => l.length - x.2.1.toNat) (fun x => ∃ (i : Nat), i ≤ l.length ∧ x = (l, (i : Int), ()) ∧ canonS l = (if i = 0 then canonS l else canonA (l.getD (i - 1) (0, 0, 0)) (l.drop i))) (fun _ => some ((canonS l, ()), (), ())) ?_ _ _ ⟨0, by omega, rfl, by simp⟩ (by simp only; omega)
  rintro x ⟨i, hi, rfl, hr⟩ rec hrec
  simp only [rcanon_L1, Int.toNat_natCast, sp_eta]
  by_cases h : i < l.length
  · rw [br_dt (by omega), br_dt (by omega), br_dt (by omega), wrapI (n := (i : Int) + 1) (by omega) (by omega)]
    have hgo : canonS l = canonA (l.getD i (0, 0, 0)) (l.drop (i + 1)) → rec (l, (i : Int) + 1, ()) = some ((canonS l, ()), (), ()) := fun he =>
      hrec _ ⟨i + 1, by omega, by simp, by rw [if_neg (by omega)]; exact he⟩ (by simp only; omega)
    have hd := drop_cons l i (0, 0, 0) h
    by_cases h0 : i = 0
    · subst h0
      rw [List.drop_zero] at hd
      have hcl : canonS l = (spanR (l.getD 0 (0, 0, 0)) && canonA (l.getD 0 (0, 0, 0)) (l.drop 1)) := (congrArg canonS hd).trans (canonS_cons _ _)
      cases hsp : spanR (l.getD 0 (0, 0, 0)) with
      | false =>
        rw [br_t (by rfl), hcl, hsp]; rfl
      | true =>
        rw [br_f (by rfl), br_df (by omega)]
        rw [hsp, Bool.true_and] at hcl
        exact hgo hcl
    · rw [if_neg h0, hd] at hr
      have hcl : canonS l = (aheadS (l.getD (i - 1) (0, 0, 0)) (l.getD i (0, 0, 0)) && (spanR (l.getD i (0, 0, 0)) && canonA (l.getD i (0, 0, 0)) (l.drop (i + 1)))) := by
        rw [hr]; exact congrArg (aheadS _ _ && ·) (canonS_cons _ _)
      have e : IntKind.i64.wrap ((i : Int) - 1) = ((i - 1 : Nat) : Int) := (wrapI (by omega) (by omega)).trans (by omega)
      rw [e, Int.toNat_natCast]
      cases hsp : spanR (l.getD i (0, 0, 0)) with
      | false =>
        rw [hsp, Bool.false_and, Bool.and_false] at hcl
        rw [br_t (by rfl), hcl]
      | true =>
        rw [hsp, Bool.true_and] at hcl
        rw [br_f (by rfl), br_dt (by omega), br_dt (by omega), br_dt (by omega), br_dt (by omega), br_dt (by omega)]
        unfold aheadS at hcl
        by_cases c1 : (l.getD (i - 1) (0, 0, 0)).1 > (l.getD i (0, 0, 0)).1
        · have : ¬ (l.getD (i - 1) (0, 0, 0)).1 < (l.getD i (0, 0, 0)).1 := by omega
          have h' : ¬ (l.getD (i - 1) (0, 0, 0)).1 = (l.getD i (0, 0, 0)).1 := by omega
          simp only [decide_eq_false this, decide_eq_false h', Bool.false_and, Bool.false_or] at hcl
          rw [br_dt c1, hcl]
        · rw [br_df c1, br_dt (by omega), br_dt (by omega), br_dt (by omega), br_dt (by omega)]
          by_cases c2 : (l.getD (i - 1) (0, 0, 0)).1 = (l.getD i (0, 0, 0)).1
          · have : ¬ (l.getD (i - 1) (0, 0, 0)).1 < (l.getD i (0, 0, 0)).1 := by omega
            rw [br_t (beq_iff_eq.2 c2), br_dt (by omega), br_dt (by omega), br_dt (by omega), br_dt (by omega)]
            by_cases c3 : (l.getD (i - 1) (0, 0, 0)).2.2 ≥ (l.getD i (0, 0, 0)).2.1
            · have h' : ¬ (l.getD (i - 1) (0, 0, 0)).2.2 < (l.getD i (0, 0, 0)).2.1 := by omega
              simp only [decide_eq_false this, decide_eq_false h', Bool.false_and, Bool.and_false, Bool.false_or] at hcl
              rw [br_dt c3, hcl]
            · have h' : (l.getD (i - 1) (0, 0, 0)).2.2 < (l.getD i (0, 0, 0)).2.1 := by omega
              simp only [decide_eq_true c2, decide_eq_true h', Bool.true_and, Bool.or_true] at hcl
              rw [br_df c3]
              exact hgo hcl
          · have : (l.getD (i - 1) (0, 0, 0)).1 < (l.getD i (0, 0, 0)).1 := by omega
            simp only [decide_eq_true this, Bool.true_or, Bool.true_and] at hcl
            rw [br_f (beq_eq_false_iff_ne.2 c2)]
            exact hgo hcl
  · rw [br_df (by omega)]
    have hi' : i = l.length := by omega
    by_cases h0 : i = 0
    · have : l = [] := List.eq_nil_of_length_eq_zero (by omega)
      subst this
      rfl
    · rw [if_neg h0, List.drop_eq_nil_of_le (by omega)] at hr
      rw [hr]; rfl
theorem v_rhas : Valid Try.prog n_rhas c_rhas := by
  refine valid_fn mixed hf_rhas (by kernel_rfl) rfl (ts := tmpsOf f_rhas.results.toList) (by kernel_rfl) (cfg := cfgW g_rhas) tt_ok Γok_nil rhas_tm c_rhas (by kernel_rfl) (fun _ _ _ _ => ⟨⟩) ?_
  rintro ⟨(l : List Spn), (k : Key), ⟨⟩⟩ r u h
  obtain ⟨h1, h2⟩ := grd_some h
  simp only at h1 h2
  have hl := lenOk_lt h1
  refine ⟨l.length + 1, (rhas_rn _ _ _).trans (Eq.trans ?_ (congrArg some h2))⟩
  unfold rhas_P
  refine loopN_meas (step := rhas_L1) (fun x => l.length - x.2.2.1.toNat) (fun x => ∃ (i : Nat), i ≤ l.length ∧ x = (l, (k.1, k.2, ()), (i : Int), ()) ∧ hasS l k = hasS (l.drop i) k) (fun _ => some ((hasS l k, ()), (), (), ())) ?_ _ _ ⟨0, by omega, rfl, by simp⟩ (by simp only; omega)
  rintro x ⟨i, hi, rfl, hr⟩ rec hrec
  simp only [rhas_L1, Int.toNat_natCast]
  by_cases h : i < l.length
  · rw [br_dt (by omega), br_dt (by omega), br_dt (by omega), wrapI (n := (i : Int) + 1) (by omega) (by omega)]
    rw [drop_cons l i (0, 0, 0) h] at hr
    unfold hasS at hr
    rw [List.any_cons] at hr
    have hgo : hasS l k = hasS (l.drop (i + 1)) k → rec (l, (k.1, k.2, ()), (i : Int) + 1, ()) = some ((hasS l k, ()), (), (), ()) := fun he =>
      hrec _ ⟨i + 1, by omega, by simp, he⟩ (by simp only; omega)
    unfold hasS at hgo ⊢
    by_cases c1 : (l.getD i (0, 0, 0)).1 = k.1
    · rw [br_t (beq_iff_eq.2 c1), br_dt (by omega), br_dt (by omega)]
      by_cases c2 : (l.getD i (0, 0, 0)).2.1 ≤ k.2
      · rw [br_dt c2, br_dt (by omega), br_dt (by omega)]
        by_cases c3 : k.2 < (l.getD i (0, 0, 0)).2.2
        · rw [br_dt c3]
          simp only [decide_eq_true c1, decide_eq_true c2, decide_eq_true c3, Bool.true_and, Bool.true_or] at hr
          rw [hr]
        · rw [br_df c3]
          exact hgo (by rw [hr, decide_eq_false c3]; simp only [Bool.and_false, Bool.false_or])
      · rw [br_df c2]
        exact hgo (by rw [hr, decide_eq_false c2]; simp only [Bool.false_and, Bool.and_false, Bool.false_or])
    · rw [br_f (beq_eq_false_iff_ne.2 c1)]
      exact hgo (by rw [hr, decide_eq_false c1]; simp only [Bool.false_and, Bool.false_or])
  · rw [br_df (by omega), hr, List.drop_eq_nil_of_le (by omega)]; rfl
theorem spn_at {l : List Spn} (h : spnOk l = true) (i : Nat) (hi : i < l.length) : -70000 ≤ (l.getD i (0, 0, 0)).2.1 ∧ (l.getD i (0, 0, 0)).2.1 ≤ 70000 ∧ -70000 ≤ (l.getD i (0, 0, 0)).2.2 ∧ (l.getD i (0, 0, 0)).2.2 ≤ 70000 := by
  have := List.all_eq_true.1 h (l.getD i (0, 0, 0)) (by rw [List.getD_eq_getElem?_getD, List.getElem?_eq_getElem hi]; exact List.getElem_mem _)
  simp only [Bool.and_eq_true, decide_eq_true_eq] at this
  exact this
theorem v_span : Valid Try.prog n_span c_span := by
  refine valid_fnc mixed hf_span (by kernel_rfl) rfl (cfg := cfgW g_span) tt_ok (Γok_cons v_within (Γok_cons v_digit Γok_nil)) span_tm c_span (by kernel_rfl) (fun _ _ _ _ => ⟨⟩) ?_
  rintro ⟨(k : Int), ⟨⟩⟩ r u h
  refine ⟨0, (span_rn _ _).trans (Eq.trans ?_ h)⟩
  show span_P 0 k = some ((spanS k, ()), (), ())
  unfold span_P spanS
  have h3 := digitS_range k 4 (n := 40) (by decide)
  have h4 := digitS_range k 160 (n := 12) (by decide)
  rw [bd_grd (by rfl), bd_grd (by rfl), bd_grd (by rfl), bd_grd (by rfl)]
  simp only
  rw [wrapI (n := 65496 + digitS k 4 40) (by omega) (by omega), wrapI (n := 1 + digitS k 160 12) (by omega) (by omega), wrapI (n := 65496 + digitS k 4 40 + (1 + digitS k 160 12)) (by omega) (by omega), wrapI (n := digitS k 4 40 + (1 + digitS k 160 12)) (by omega) (by omega)]
  by_cases c1 : digitS k 1920 16 = 0
  · rw [br_t (beq_iff_eq.2 c1)]
    simp [c1, minI_eq]
  · rw [br_f (beq_eq_false_iff_ne.2 c1)]
    by_cases c2 : digitS k 1920 16 = 1
    · rw [br_t (beq_iff_eq.2 c2), bd_grd (by rfl)]
      simp only
      rw [wrapI (n := 100 * digitS k 160 12) (by omega) (by omega), wrapI (n := 1 + 100 * digitS k 160 12) (by omega) (by omega), wrapI (n := digitS k 4 40 + (1 + 100 * digitS k 160 12)) (by omega) (by omega)]
      simp [c2, minI_eq]
    · rw [br_f (beq_eq_false_iff_ne.2 c2)]
      simp [c1, c2, minI_eq]
theorem v_key : Valid Try.prog n_key c_key := by
  refine valid_fnc mixed hf_key (by kernel_rfl) rfl (cfg := cfgW g_key) tt_ok (Γok_cons v_within (Γok_cons v_digit Γok_nil)) key_tm c_key (by kernel_rfl) (fun _ _ _ _ => ⟨⟩) ?_
  rintro ⟨(k : Int), ⟨⟩⟩ r u h
  refine ⟨0, (key_rn _ _).trans (Eq.trans ?_ h)⟩
  show key_P 0 k = some ((keyS k, ()), (), ())
  unfold key_P keyS
  have h3 := digitS_range k 4 (n := 16) (by decide)
  rw [bd_grd (by rfl), bd_grd (by rfl), bd_grd (by rfl)]
  simp only
  rw [wrapI (n := 65535 - digitS k 4 16) (by omega) (by omega)]
  by_cases c1 : digitS k 64 16 = 0
  · rw [br_t (beq_iff_eq.2 c1), if_pos c1]
  · rw [br_f (beq_eq_false_iff_ne.2 c1), if_neg c1]
theorem v_cell : Valid Try.prog n_cell c_cell := by
  refine valid_fnc mixed hf_cell (by kernel_rfl) rfl (cfg := cfgW g_cell) tt_ok (Γok_cons v_key (Γok_cons v_digit Γok_nil)) cell_tm c_cell (by kernel_rfl) (fun _ _ _ _ => ⟨⟩) ?_
  rintro ⟨(k : Int), ⟨⟩⟩ r u h
  refine ⟨0, (cell_rn _ _).trans (Eq.trans ?_ h)⟩
  show cell_P 0 k = some ((cellS k, ()), (), ())
  unfold cell_P cellS
  have h3 := digitS_range k 1024 (n := 65536) (by decide)
  have hk := keyS_ok k
  have hk1 : (keyS k).1 = k % 4 := rfl
  rw [bd_grd (by rfl)]
  simp only [notf', mk_eta]
  rw [wrapW (n := digitS k 1024 65536) (by omega) (by omega), hk1]
  by_cases c1 : k % 4 < 2
  · rw [br_dt c1, if_pos c1, Int.tmod_eq_emod_of_nonneg (by omega)]
  · rw [br_df c1, if_neg c1]
theorem v_cells : Valid Try.prog n_cells c_cells := by
  refine valid_fn mixed hf_cells (by kernel_rfl) rfl (ts := tmpsOf f_cells.results.toList) (by kernel_rfl) (cfg := cfgW g_cells) tt_ok (Γok_cons v_cell (Γok_cons v_rput Γok_nil)) cells_tm c_cells (by kernel_rfl) (fun _ _ _ _ => ⟨⟩) ?_
  rintro ⟨(l : List Int), ⟨⟩⟩ r u h
  refine ⟨22, (cells_rn _ _).trans (Eq.trans ?_ h)⟩
  show cells_P 22 l = some ((cellsS l, ()), (), ())
  unfold cells_P
  have hlen : (l.take 20).length ≤ 20 ∧ (l.take 20).length ≤ l.length := by rw [List.length_take]; omega
  refine loopN_for (step := cells_L1) (l.take 20).length (fun i => (l, cellsR (l.take i), (i : Int), ())) (fun i hi rec => ?_) (fun rec => ?_) _ (by omega)
  · simp only [cells_L1, Int.toNat_natCast, mk_eta]
    have h20 : i < 20 ∧ i < l.length := by rw [List.length_take] at hi; omega
    have hb : bufS (cellsR (l.take i)) = true := foldl_buf _ _ rfl
    have hn : (cellsR (l.take i)).length ≤ 20 := by
      have := foldl_len (l.take i) []
      unfold cellsR
      rw [List.length_take] at this
      simp at this
      omega
    rw [br_dt (by omega), br_dt (by omega), br_dt (by omega), br_dt (by omega), bd_grd (by rw [hb]; simp [lenOk]; omega), wrapI (n := (i : Int) + 1) (by omega) (by omega)]
    simp only
    congr 1
    refine Prod.ext rfl (Prod.ext ?_ rfl)
    show putK _ _ = cellsR _
    rw [take_snoc l i 0 h20.2]
    unfold cellsR
    rw [List.foldl_append, putK_eq]
    rfl
  · simp only [cells_L1]
    rw [cellsS_eq]
    by_cases h : l.length ≤ 20
    · have e : l.take 20 = l := List.take_of_length_le h
      rw [e, br_df (by omega), List.take_length]
    · have e : (l.take 20).length = 20 := by rw [List.length_take]; omega
      rw [e, br_dt (by omega), br_df (by omega)]
end Go.BB
