/- A symbolic machine for the model's code, and what it shows of this seat's functions. No conditions. -/
import Derived.Test.YteaomngbkklfoaaRGviewl
import Derived.Test.YteaomngbkklfoaaRLawValid
set_option linter.unusedSimpArgs false
set_option linter.unusedVariables false
namespace Go.BB
open Go Go.Proofs
set_option maxRecDepth 100000
theorem v_awake19 : Valid Try.prog n_awake19 c_awake19 := by
  refine valid_fn mixed hf_awake19 (by kernel_rfl) rfl (ts := tmpsOf f_awake19.results.toList) (by kernel_rfl) (cfg := cfgW g_awake19) tt_ok (Γok_cons v_stNew (Γok_cons v_viewWrite (Γok_cons v_viewRead Γok_nil))) [] c_awake19 (by kernel_rfl) (fun _ _ _ _ => ⟨⟩) ?_
  rintro ⟨⟩ r u h
  exact ⟨3, awake19_rn.trans h⟩
theorem vw_eta (v : Vw) : ((v.1, v.2.1, v.2.2) : Vw) = v := rfl
theorem viewRead_ok {v : Vw} (hv : ViewOk v) {s : Spn} (hs : spanR s = true) {most : Int} (hm : most ≤ 100000) (l : List Int) : ViewOk (viewRead v s most l).1.1 := by
  unfold viewRead
  by_cases h : ((readsS v s).length : Int) > most
  · rw [if_pos h]; exact hv
  · rw [if_neg h]
    exact ⟨addAll_canon hv.canon (rest_right hv.buf hs), hv.buf, by show (readsS v s).length ≤ 100000; omega, hv.n2⟩
theorem viewWrite_ok {v : Vw} (hv : ViewOk v) {most : Int} (hm : most ≤ 100000) (l : List Cel) : ViewOk (viewWrite v l most).1 := by
  unfold viewWrite
  by_cases h : ((writesS v l).length : Int) > most
  · rw [if_pos h]; exact hv
  · rw [if_neg h]
    exact ⟨hv.canon, foldl_putK_buf l v.2.2 hv.buf, hv.n1, by show (writesS v l).length ≤ 100000; omega⟩
theorem vok {v : Vw} (h : ViewOk v) : viewOk v = true := (viewOk_iff v).2 h
theorem vok2 {v w : Vw} (h : ViewOk v) (h' : ViewOk w) : (viewOk v && viewOk w) = true := and_t (vok h) (vok h')
theorem sameVw_self (v : Vw) : sameVw v v = true := decide_eq_true rfl
theorem viewOk_nil (q : Int) : ViewOk (q, [], []) := ⟨rfl, rfl, by simp, by simp⟩
theorem short_eq (k : Int) : ((spanS k).1, (spanS k).2.1, minI (spanS k).2.2 (IntKind.i64.wrap ((spanS k).2.1 + 60))) = shortS k := by
  have h := spanR_iff.1 (spanS_ok k)
  rw [wrapI (by omega) (by omega), minI_eq]; rfl
theorem lookD_len (m : List Row) (v : Vw) (s : Spn) : (lookD m v s).length = (s.2.2 - s.2.1).toNat := lookN_len _ _ _ _ _
theorem lookP_len (m : Chs) (v : Vw) (s : Spn) : (lookP m v s).length = (s.2.2 - s.2.1).toNat := lookN_len _ _ _ _ _
theorem take_lent {α : Type} (m : α) (l : List α) : List.take l.length (lentS m l) = l := by simp [lentS]
theorem viewRead_len (v : Vw) (s : Spn) (most : Int) (l : List Int) : (viewRead v s most l).1.2.length ≤ l.length := by
  unfold viewRead
  split
  · simp
  · exact Nat.le_refl _
theorem lv_ViewPlays : Valid Try.prog n_lViewPlays ⟨valsOf [.slice tI, tU, tI, tI, .slice tI], [.val .bool], Fok (tys := [.slice tI, tU, tI, tI, .slice tI]) (fun _ => true) ((), (), (), (), (), ())⟩ := by
  refine valid_law mixed hf_lViewPlays (by kernel_rfl) rfl (ts := tmpsOf f_lViewPlays.results.toList) (by kernel_rfl) (cfg := cfgW g_lViewPlays) tt_ok
    (Γok_cons v_awake19 (Γok_cons v_stores (Γok_cons v_within (Γok_cons v_span (Γok_cons v_digit (Γok_cons v_look (Γok_cons v_rlook (Γok_cons v_sameWords (Γok_cons v_cells (Γok_cons v_lentCells (Γok_cons v_viewWrite (Γok_cons v_rviewWrite (Γok_cons v_sameView (Γok_cons v_staysCells (Γok_cons v_viewRead (Γok_cons v_rviewRead Γok_nil)))))))))))))))) lViewPlays_tm (by kernel_rfl) ?_
  rintro ⟨(ks : List Int), (snap : Int), (spans : Int), (writes : Int), (l : List Int), ⟨⟩⟩ _
  refine ⟨40, (lViewPlays_rn _ _ _ _ _ _).trans ?_⟩
  unfold lViewPlays_P
  by_cases hks : (ks.length : Int) > 40
  · rw [br_dt hks]; rfl
  by_cases hl : (l.length : Int) > 30
  · rw [br_df hks, br_dt hl]; rfl
  obtain ⟨j, hj, hb⟩ := storesS_both ks
  rw [br_df hks, br_df hl, brNT, bd_grd (lenOk_of' (by omega)), brF, brF, bd_grd (by decide), bd_grd (by decide)]
  simp only [sto_eta, ref_eta]
  have a1 := Int.emod_lt_of_pos spans (show (0 : Int) < 9 by decide)
  have a2 := Int.emod_lt_of_pos writes (show (0 : Int) < 20 by decide)
  generalize spans % 9 = sm at a1
  generalize writes % 20 = wm at a2
  generalize snap.tmod 16 = q
  generalize (storesS ks).1 = s at hb
  generalize (storesS ks).2 = x at hb
  have hs : stoOk s = true := (stoOk_iff _).2 hb.os
  have hx : refOk x = true := (refOk_iff _).2 hb.ox
  refine loopN_meas (step := lViewPlays_L1) (fun y => l.length - y.2.2.2.2.2.2.2.1.toNat) (fun y => ∃ (i : Nat) (v : Vw), i ≤ l.length ∧ ViewOk v ∧ y = (sm, wm, l, s, x, (v.1, v.2.1, v.2.2, ()), (v.1, v.2.1, v.2.2, ()), (i : Int), ()))
    (fun _ => some ((true, ()), (), (), (), (), (), ())) ?_ _ _ ⟨0, (q, [], []), by omega, viewOk_nil q, rfl⟩ (by simp only; omega)
  rintro y ⟨i, v, hi, hv, rfl⟩ rec hrec
  simp only [lViewPlays_L1, Int.toNat_natCast, sto_eta, ref_eta, vw_eta, short_eq, look_like hb.like]
  by_cases hlt : i < l.length
  · rw [br_dt (by omega), br_dt (by omega), br_dt (by omega)]
    refine (bd_grd (by decide)).trans ?_
    simp only [short_eq]
    have hr := short_right (digitS (l.getD i 0) 3 100000)
    generalize shortS (digitS (l.getD i 0) 3 100000) = sp at hr
    have hsp := spanR_iff.1 hr
    have hg1 := and_t hs (and_t (vok hv) hr)
    have hg2 := and_t hx (and_t (vok hv) hr)
    have hll := lookD_len x.2.2.1 v sp
    refine (bd_grd hg1).trans ?_
    refine (bd_grd hg2).trans ?_
    refine (bd_grd (decide_eq_true (by rw [hll]; omega))).trans ?_
    refine (br_f (by simp only [sameS_self]; rfl)).trans ?_
    rw [br_dt (by omega), br_dt (by omega), bd_grd (by decide)]
    by_cases hz : l.getD i 0 % 3 = 0
    · refine (br_t (beq_iff_eq.2 hz)).trans ?_
      rw [br_dt (by omega), wrapI (n := (i : Int) + 3) (by omega) (by omega), minI_eq, br_dt (by omega), br_dt (by omega)]
      have hc := fun k => cellsS_len (List.take ((min ((i : Int) + 3) (l.length : Int)).toNat - i) k)
      refine (bd_grd (decide_eq_true (Nat.lt_of_le_of_lt (hc _) (by decide)))).trans ?_
      simp only [take_lent]
      refine (bd_grd (and_t (vok hv) (and_t (decide_eq_true (by have := hc (List.drop i l); simp [lentS]; omega)) (decide_eq_true (by simp [lentS]))))).trans ?_
      refine (bd_grd (and_t (vok hv) (decide_eq_true (Nat.le_trans (hc _) (by decide))))).trans ?_
      have hw := viewWrite_ok hv (most := wm) (by omega) (cellsS (List.take ((min ((i : Int) + 3) (l.length : Int)).toNat - i) (List.drop i l)))
      simp only [vw_eta]
      refine (br_f (by simp)).trans ?_
      refine (bd_grd (vok2 hw hw)).trans ?_
      refine (br_f (by simp only [sameVw_self]; rfl)).trans ?_
      refine (bd_grd (and_t (staysS_lent _ _) (decide_eq_true (Nat.lt_of_le_of_lt (hc _) (by decide))))).trans ?_
      refine (br_f rfl).trans ?_
      refine (bd_grd (vok2 hv hv)).trans ?_
      refine (br_f (by simp only [sameVw_self]; rfl)).trans ?_
      rw [wrapI (n := (i : Int) + 1) (by omega) (by omega)]
      exact hrec _ ⟨i + 1, _, by omega, hw, by rw [show ((i + 1 : Nat) : Int) = (i : Int) + 1 by omega]⟩ (by simp only; omega)
    · refine (br_f (beq_eq_false_iff_ne.2 hz)).trans ?_
      refine (bd_grd hg1).trans ?_
      refine (bd_grd hg2).trans ?_
      have hw := viewRead_ok hv hr (most := sm) (by omega) (lookD x.2.2.1 v sp)
      have hwl := viewRead_len v sp sm (lookD x.2.2.1 v sp)
      simp only [vw_eta, look_like hb.like]
      refine (br_f (by simp)).trans ?_
      refine (bd_grd (vok2 hw hw)).trans ?_
      refine (br_f (by simp only [sameVw_self]; rfl)).trans ?_
      refine (bd_grd (decide_eq_true (Nat.lt_of_le_of_lt hwl (by rw [hll]; omega)))).trans ?_
      refine (br_f (by simp only [sameS_self]; rfl)).trans ?_
      refine (bd_grd (vok2 hv hv)).trans ?_
      refine (br_f (by simp only [sameVw_self]; rfl)).trans ?_
      rw [wrapI (n := (i : Int) + 1) (by omega) (by omega)]
      exact hrec _ ⟨i + 1, _, by omega, hw, by rw [show ((i + 1 : Nat) : Int) = (i : Int) + 1 by omega]⟩ (by simp only; omega)
  · rw [br_df (by omega)]
    refine (bd_grd (vok2 hv hv)).trans ?_
    simp only [sameVw_self]
end Go.BB
