/- A symbolic machine for the model's code, and what it shows of this seat's functions. No conditions. -/
import Derived.Test.YteaomngbkklfoaaRGvalidl
import Derived.Test.YteaomngbkklfoaaRVview
set_option linter.unusedSimpArgs false
set_option linter.unusedVariables false
namespace Go.BB
open Go Go.Proofs
set_option maxRecDepth 100000
theorem v_awake20 : Valid Try.prog n_awake20 c_awake20 := by
  refine valid_fn mixed hf_awake20 (by kernel_rfl) rfl (ts := tmpsOf f_awake20.results.toList) (by kernel_rfl) (cfg := cfgW g_awake20) tt_ok (Γok_cons v_stNew (Γok_cons v_stInstall (Γok_cons v_clash (Γok_cons v_fresh Γok_nil)))) [] c_awake20 (by kernel_rfl) (fun _ _ _ _ => ⟨⟩) ?_
  rintro ⟨⟩ r u h
  exact ⟨3, awake20_rn.trans h⟩
theorem sto_eta (s : Sto) : ((s.1, s.2.1, s.2.2.1, s.2.2.2.1, ()) : Sto) = s := rfl
theorem ref_eta (s : Ref) : ((s.1, s.2.1, s.2.2.1, ()) : Ref) = s := rfl
theorem storesGo_both : ∀ (n j : Nat) (p : Sto × Ref) (ks : List Int), j + n ≤ 14 → Both j p.1 p.2 → ∃ j', j' ≤ 14 ∧ Both j' (storesGo n p ks).1 (storesGo n p ks).2
  | 0, j, p, ks, h, hb => ⟨j, by omega, hb⟩
  | n + 1, j, p, ks, h, hb => by
    rw [storesGo]
    split
    · exact ⟨j, by omega, hb⟩
    · exact storesGo_both n (j + 1) _ _ (by omega) (both_inst hb (by omega) (cellsS_len _)).2
theorem storesS_both (ks : List Int) : ∃ j, j ≤ 14 ∧ Both j (storesS ks).1 (storesS ks).2 := storesGo_both 14 0 _ ks (Nat.le_refl _) both_new
theorem rightsS_canon {l : List Spn} (h : canonS l = true) : rightsS l = true := List.all_eq_true.2 (canonS_right h)
theorem canon_one {s : Spn} (h : spanR s = true) : canonS [s] = true := h
theorem clashP_false {m : Chs} {l : List Spn} (hl : canonS l = true) (since : Int) : (clashP m l since).2 = false ↔ ∀ k, hasS l k = true → newS (chnOf m k) ≤ since := by
  have h := clashL_first (fun k => newS (chnOf m k)) since hl
  change First _ (clashP m l since) at h
  rcases h with ⟨h1, h2, h3⟩ | ⟨h1, h2⟩
  · rw [h1]
    exact ⟨fun h => (by cases h), fun h => by
      have h4 : since < newS (chnOf m (clashP m l since).1) := h2.2
      have := h _ h2.1
      omega⟩
  · rw [h1]
    exact ⟨fun _ k hk => by have := h2 k; simp only [not_and] at this; have := this hk; omega, fun _ => rfl⟩
theorem clashP_true {m : Chs} {l : List Spn} (hl : canonS l = true) {since : Int} (h : (clashP m l since).2 = true) : hasS l (clashP m l since).1 = true ∧ since < newS (chnOf m (clashP m l since).1) := by
  have h' := clashL_first (fun k => newS (chnOf m k)) since hl
  change First _ (clashP m l since) at h'
  rcases h' with ⟨h1, h2, h3⟩ | ⟨h1, h2⟩
  · exact h2
  · rw [h1] at h; cases h
theorem tmodU {n m : Int} (h : 0 ≤ n) (hm : 0 < m) : 0 ≤ n.tmod m ∧ n.tmod m < m := ⟨Int.tmod_nonneg m h, Int.tmod_lt_of_pos n hm⟩
theorem isU_iff {n : Int} : isU n = true ↔ 0 ≤ n ∧ n ≤ 18446744073709551615 := by simp [isU]
theorem pair_beq (a : Int × Int) : (a.1 == a.1 && a.2 == a.2) = true := by simp
theorem lv_ValidTells : Valid Try.prog n_lValidTells ⟨valsOf [.slice tI, .slice tI, tU], [.val .bool], Fok (tys := [.slice tI, .slice tI, tU]) (fun (x : List Int × List Int × Int × Unit) => isU x.2.2.1) ((), (), (), ())⟩ := by
  refine valid_law mixed hf_lValidTells (by kernel_rfl) rfl (ts := tmpsOf f_lValidTells.results.toList) (by kernel_rfl) (cfg := cfgW g_lValidTells) tt_ok
    (Γok_cons v_awake20 (Γok_cons v_stores (Γok_cons v_spans (Γok_cons v_lentSpans (Γok_cons v_clash (Γok_cons v_rclash (Γok_cons v_fresh (Γok_cons v_staysSpans Γok_nil)))))))) lValidTells_tm (by kernel_rfl) ?_
  rintro ⟨(ks : List Int), (l : List Int), (since : Int), ⟨⟩⟩ h1
  have hu := isU_iff.1 h1
  obtain ⟨t0, t1⟩ := tmodU hu.1 (show (0 : Int) < 16 by decide)
  refine ⟨0, (lValidTells_rn _ _ _ _).trans ?_⟩
  unfold lValidTells_P
  by_cases hks : (ks.length : Int) > 40
  · rw [br_dt hks]; rfl
  obtain ⟨j, hj, hb⟩ := storesS_both ks
  have hc := spansS_canon l
  have hl := spansS_len l
  have hl' : lenOk (spansS l) = true := lenOk_of' (by omega)
  rw [br_df hks, brNT, bd_grd (lenOk_of' (by omega)), brF, bd_grd (decide_eq_true (by omega))]
  simp only [take_drop0, sto_eta, ref_eta]
  generalize (storesS ks).1 = s at hb
  generalize (storesS ks).2 = x at hb
  have hs : stoOk s = true := (stoOk_iff _).2 hb.os
  rw [bd_grd (and_t hs (and_t hl' (rightsS_canon hc))), bd_grd (and_t ((refOk_iff _).2 hb.ox) hl')]
  simp only [clash_like hb.ox hb.like hc _ t0]
  rw [br_t (pair_beq _), br_t (by simp), bd_grd (and_t hs (and_t hl' (rightsS_canon hc)))]
  simp only [clash_like hb.ox hb.like hc _ t0]
  rw [br_t (by simp), bd_grd (by rw [staysS_lent]; simp; omega)]
  rfl
theorem clashN_snoc (f : Key → Int) (since t : Int) : ∀ (n : Nat) (a : Int), (clashN f since t a (n + 1)).2 = ((clashN f since t a n).2 || decide (f (t, a + n) > since))
  | 0, a => by
    simp only [clashN]
    by_cases h : f (t, a) ≤ since
    · rw [if_pos h]; simp; omega
    · rw [if_neg h]; simp; omega
  | n + 1, a => by
    have e1 : clashN f since t a (n + 1 + 1) = if f (t, a) ≤ since then clashN f since t (a + 1) (n + 1) else ((t, a), true) := rfl
    have e2 : clashN f since t a (n + 1) = if f (t, a) ≤ since then clashN f since t (a + 1) n else ((t, a), true) := rfl
    rw [e1, e2]
    by_cases h : f (t, a) ≤ since
    · rw [if_pos h, if_pos h, clashN_snoc f since t n (a + 1), show a + 1 + (n : Int) = a + ((n + 1 : Nat) : Int) by push_cast; omega]
    · rw [if_neg h, if_neg h]; rfl
theorem cnt_full {l : List Ver} (hr : rightFrom 0 l = true) {q : Int} (h : newS l ≤ q) : cnt l q = l.length := by
  have hle := cnt_le l q
  apply Classical.byContradiction
  intro hne
  have := cnt_stop l q (by omega)
  have := newS_last hr (Int.le_refl _) (cnt l q) (by omega)
  omega
theorem atV_full {l : List Ver} (hr : rightFrom 0 l = true) {q q' : Int} (h : newS l ≤ q) (h' : newS l ≤ q') : atV l q = atV l q' := by
  unfold atV
  rw [cnt_full hr h, cnt_full hr h']
theorem hasS_one1 (s : Spn) (k : Key) : hasS [s] k = true ↔ s.1 = k.1 ∧ s.2.1 ≤ k.2 ∧ k.2 < s.2.2 := by
  rw [hasS_cons1]; simp [hasS]
theorem clashP_one (m : Chs) (s : Spn) (since : Int) : (clashP m [s] since).2 = (clashN (fun k => newS (chnOf m k)) since s.1 s.2.1 (s.2.2 - s.2.1).toNat).2 := by
  show (clashL _ since [s]).2 = _
  rw [clashL]
  split
  · rfl
  · rename_i h
    show false = _
    rw [Bool.not_eq_true] at h; exact h.symm
theorem short_right (k : Int) : spanR (shortS k) = true := by
  have h := spanR_iff.1 (spanS_ok k)
  refine spanR_iff.2 ⟨h.1, h.2.1, h.2.2.1, ?_, ?_⟩
  · show min (spanS k).2.2 ((spanS k).2.1 + 60) ≤ 65536; omega
  · show (spanS k).2.1 < min (spanS k).2.2 ((spanS k).2.1 + 60); omega
theorem lv_ValidFresh : Valid Try.prog n_lValidFresh ⟨valsOf [.slice tI, tI, tU], [.val .bool], Fok (tys := [.slice tI, tI, tU]) (fun (x : List Int × Int × Int × Unit) => isU x.2.2.1) ((), (), (), ())⟩ := by
  refine valid_law mixed hf_lValidFresh (by kernel_rfl) rfl (ts := tmpsOf f_lValidFresh.results.toList) (by kernel_rfl) (cfg := cfgW g_lValidFresh) tt_ok
    (Γok_cons v_awake20 (Γok_cons v_stores (Γok_cons v_span (Γok_cons v_fresh (Γok_cons v_stNewest (Γok_cons v_stLast (Γok_cons v_stRead Γok_nil))))))) lValidFresh_tm (by kernel_rfl) ?_
  rintro ⟨(ks : List Int), (k : Int), (since : Int), ⟨⟩⟩ h1
  have hu := isU_iff.1 h1
  obtain ⟨t0, t1⟩ := tmodU hu.1 (show (0 : Int) < 16 by decide)
  refine ⟨70000, (lValidFresh_rn _ _ _ _).trans ?_⟩
  unfold lValidFresh_P
  by_cases hks : (ks.length : Int) > 40
  · rw [br_dt hks]; rfl
  obtain ⟨j, hj, hb⟩ := storesS_both ks
  have hr := short_right k
  have hsp := spanR_iff.1 hr
  have h2 := spanR_iff.1 (spanS_ok k)
  have hsh : ((spanS k).1, (spanS k).2.1, min (spanS k).2.2 ((spanS k).2.1 + 60)) = shortS k := rfl
  have hsh1 : (spanS k).1 = (shortS k).1 := rfl
  have hsh2 : (spanS k).2.1 = (shortS k).2.1 := rfl
  rw [br_df hks, brNT, bd_grd (lenOk_of' (by omega)), brF, wrapI (n := (spanS k).2.1 + 60) (by omega) (by omega), minI_eq]
  simp only [sto_eta, ref_eta, hsh]
  rw [show min (spanS k).2.2 ((spanS k).2.1 + 60) = (shortS k).2.2 from rfl, hsh1, hsh2]
  generalize shortS k = sp at hr hsp
  generalize (storesS ks).1 = s at hb
  have hs : stoOk s = true := (stoOk_iff _).2 hb.os
  rw [bd_grd (and_t hs (and_t (lenOk_of' (by simp)) (rightsS_canon (canon_one hr))))]
  simp only
  generalize since.tmod 16 = q at t0 t1
  have hch := clashP_one s.2.2.2.1 sp q
  cases hc : (clashP s.2.2.2.1 [sp] q).2 with
  | false =>
    have hall := (clashP_false (canon_one hr) q).1 hc
    have := loopN_for (step := lValidFresh_L1) (res := some ((true, ()), (), (), (), ())) (sp.2.2 - sp.2.1).toNat (fun i => (q, s, (sp.1, sp.2.1, sp.2.2, ()), true, false, sp.2.1 + (i : Int), ())) (fun i hi rec => ?_) (fun rec => ?_) 70000 (by omega)
    · have e0 : sp.2.1 + ((0 : Nat) : Int) = sp.2.1 := by simp
      simp only [e0] at this
      exact this
    · have hk : hasS [sp] (sp.1, sp.2.1 + (i : Int)) = true := (hasS_one1 _ _).2 ⟨rfl, by simp only; omega, by simp only; omega⟩
      have hn := hall _ hk
      have ho := chnOf_ok hb.os (sp.1, sp.2.1 + (i : Int))
      simp only [lValidFresh_L1, sto_eta]
      rw [br_dt (by omega)]
      refine (br_f rfl).trans ?_
      rw [bd_grd hs]
      simp only [sto_eta]
      refine (br_t rfl).trans ?_
      rw [bd_grd hs]
      simp only [sto_eta]
      rw [bd_grd hs]
      simp only [sto_eta]
      rw [br_f (by rw [atV_full ho.1 ho.2.1 hn]; simp), wrapI (n := sp.2.1 + (i : Int) + 1) (by omega) (by omega), decide_eq_false (by omega), show sp.2.1 + ((i + 1 : Nat) : Int) = sp.2.1 + (i : Int) + 1 by push_cast; omega]
    · simp only [lValidFresh_L1, sto_eta]
      rw [br_df (by omega)]
      rfl
  | true =>
    rw [hc] at hch
    have := loopN_for (step := lValidFresh_L1) (res := some ((true, ()), (), (), (), ())) (sp.2.2 - sp.2.1).toNat (fun i => (q, s, (sp.1, sp.2.1, sp.2.2, ()), false, (clashN (fun k => newS (chnOf s.2.2.2.1 k)) q sp.1 sp.2.1 i).2, sp.2.1 + (i : Int), ())) (fun i hi rec => ?_) (fun rec => ?_) 70000 (by omega)
    · have e0 : sp.2.1 + ((0 : Nat) : Int) = sp.2.1 := by simp
      simp only [e0] at this
      exact this
    · have hsn := clashN_snoc (fun k => newS (chnOf s.2.2.2.1 k)) q sp.1 i sp.2.1
      simp only [lValidFresh_L1, sto_eta]
      rw [br_dt (by omega), hsn, wrapI (n := sp.2.1 + (i : Int) + 1) (by omega) (by omega), show sp.2.1 + ((i + 1 : Nat) : Int) = sp.2.1 + (i : Int) + 1 by push_cast; omega]
      cases (clashN (fun k => newS (chnOf s.2.2.2.1 k)) q sp.1 sp.2.1 i).2 with
      | true => rfl
      | false =>
        refine (br_f rfl).trans ?_
        rw [bd_grd hs]
        rfl
    · simp only [lValidFresh_L1, sto_eta]
      rw [br_df (by omega), ← hch]
      rfl
theorem clashL_any (f : Key → Int) (since : Int) : ∀ l : List Spn, (clashL f since l).2 = l.any fun s => (clashN f since s.1 s.2.1 (s.2.2 - s.2.1).toNat).2
  | [] => rfl
  | s :: l => by
    rw [clashL, List.any_cons, ← clashL_any f since l]
    cases h : (clashN f since s.1 s.2.1 (s.2.2 - s.2.1).toNat).2 with
    | true => rw [if_pos rfl, h]; rfl
    | false => rw [if_neg (by decide)]; rfl
theorem clashP_snoc (m : Chs) (l : List Spn) (s : Spn) (since : Int) : (clashP m (l ++ [s]) since).2 = ((clashP m l since).2 || (clashP m [s] since).2) := by
  show (clashL _ since _).2 = ((clashL _ since _).2 || (clashL _ since _).2)
  rw [clashL_any, clashL_any, clashL_any, List.any_append]
theorem lv_ValidParts : Valid Try.prog n_lValidParts ⟨valsOf [.slice tI, .slice tI, tU, tU], [.val .bool], Fok (tys := [.slice tI, .slice tI, tU, tU]) (fun (x : List Int × List Int × Int × Int × Unit) => isU x.2.2.1 && isU x.2.2.2.1) ((), (), (), (), ())⟩ := by
  refine valid_law mixed hf_lValidParts (by kernel_rfl) rfl (ts := tmpsOf f_lValidParts.results.toList) (by kernel_rfl) (cfg := cfgW g_lValidParts) tt_ok
    (Γok_cons v_awake20 (Γok_cons v_stores (Γok_cons v_spans (Γok_cons v_fresh (Γok_cons v_clash (Γok_cons v_rhas (Γok_cons v_stNewest Γok_nil))))))) lValidParts_tm (by kernel_rfl) ?_
  rintro ⟨(ks : List Int), (ls : List Int), (since : Int), (more : Int), ⟨⟩⟩ h1
  simp only [Bool.and_eq_true] at h1
  obtain ⟨t0, t1⟩ := tmodU (isU_iff.1 h1.1).1 (show (0 : Int) < 16 by decide)
  obtain ⟨u0, u1⟩ := tmodU (isU_iff.1 h1.2).1 (show (0 : Int) < 9 by decide)
  refine ⟨30, (lValidParts_rn _ _ _ _ _).trans ?_⟩
  unfold lValidParts_P
  by_cases hks : (ks.length : Int) > 40
  · rw [br_dt hks]; rfl
  obtain ⟨j, hj, hb⟩ := storesS_both ks
  have hc := spansS_canon ls
  have hl := spansS_len ls
  rw [br_df hks, brNT, bd_grd (lenOk_of' (by omega)), brF]
  simp only [sto_eta, ref_eta]
  generalize spansS ls = l at hc hl
  have hl' : lenOk l = true := lenOk_of' (by omega)
  generalize (storesS ks).1 = s at hb
  have hs : stoOk s = true := (stoOk_iff _).2 hb.os
  have hn : (stoOk s && (lenOk ([] : List Spn) && rightsS [])) = true := and_t hs rfl
  generalize since.tmod 16 = q at t0 t1
  generalize hmq : more.tmod 9 = mq at u0 u1
  refine loopN_for (step := lValidParts_L1) l.length (fun i => (q, more, s, l, !(clashP s.2.2.2.1 (l.take i) q).2, (i : Int), ())) (fun i hi rec => ?_) (fun rec => ?_) 30 (by omega)
  · simp only [lValidParts_L1, sto_eta, Int.toNat_natCast]
    have ht : List.take ((IntKind.i64.wrap ((i : Int) + 1)).toNat - i) (List.drop i l) = [l.getD i (0, 0, 0)] := by
      rw [wrapI (by omega) (by omega), show (((i : Int) + 1).toNat - i) = 1 by omega, drop_cons l i ((0, 0, 0) : Spn) hi]; rfl
    rw [br_dt (by omega), ht, take_snoc l i ((0, 0, 0) : Spn) hi, clashP_snoc, wrapI (n := (i : Int) + 1) (by omega) (by omega)]
    have hr : spanR (l.getD i (0, 0, 0)) = true := canonS_right hc _ (mem_getD hi)
    cases (clashP s.2.2.2.1 (l.take i) q).2 with
    | true => rfl
    | false =>
      refine (br_t rfl).trans ?_
      rw [br_dt (by omega), br_dt (by omega), br_dt (by omega)]
      refine (bd_grd (and_t hs (and_t rfl (rightsS_canon (canon_one hr))))).trans ?_
      simp only [sto_eta, Bool.false_or]
      rfl
  · simp only [lValidParts_L1, sto_eta]
    have hg := and_t hs (and_t hl' (rightsS_canon hc))
    rw [List.take_length, br_df (by omega), bd_grd hg]
    simp only [sto_eta]
    rw [bd_grd hg]
    simp only [sto_eta]
    rw [br_t (by simp)]
    cases hcl : (clashP s.2.2.2.1 l q).2 with
    | true =>
      obtain ⟨g1, g2⟩ := clashP_true hc hcl
      refine (br_t rfl).trans ?_
      refine (br_t rfl).trans ?_
      refine (br_f rfl).trans ?_
      rw [bd_grd hl']
      refine (br_t g1).trans ?_
      rw [bd_grd hs]
      refine (br_dt g2).trans ?_
      rw [bd_grd hn]
      rfl
    | false =>
      refine (br_f rfl).trans ?_
      refine (br_t rfl).trans ?_
      rw [bd_grd hg]
      have hall := (clashP_false hc q).1 hcl
      have hw : (clashP s.2.2.2.1 l (IntKind.u64.wrap (q + more.tmod 9))).2 = false := by
        rw [hmq, wrapU (by omega) (by omega)]
        exact (clashP_false hc _).2 fun k hk => by have := hall k hk; omega
      simp only [sto_eta, hw]
      refine (br_t rfl).trans ?_
      refine (br_t rfl).trans ?_
      refine (br_t rfl).trans ?_
      rw [bd_grd hn]
      rfl
theorem putR_ne (l : List Cel) (c : Cel) : putR l c ≠ [] := by
  cases l with
  | nil => simp [putR]
  | cons a l =>
    rw [putR]
    split
    · simp
    · split <;> simp
theorem cellsS_ne {ks : List Int} (h : 0 < ks.length) : cellsS ks ≠ [] := by
  rw [cellsS_eq]
  have : ∀ (l : List Int) (b : List Cel), (b ≠ [] ∨ l ≠ []) → l.foldl (fun l k => putR l (cellS k)) b ≠ [] := by
    intro l
    induction l with
    | nil => intro b hb; exact hb.elim id (fun h => absurd rfl h)
    | cons k l ih =>
      intro b _
      exact ih _ (.inl (putR_ne b _))
  refine this _ _ (.inr ?_)
  intro e
  have := congrArg List.length e
  rw [List.length_take] at this
  simp only [List.length_nil] at this
  omega
theorem lv_ValidWrites : Valid Try.prog n_lValidWrites ⟨valsOf [.slice tI, .slice tI, tI], [.val .bool], Fok (tys := [.slice tI, .slice tI, tI]) (fun _ => true) ((), (), (), ())⟩ := by
  refine valid_law mixed hf_lValidWrites (by kernel_rfl) rfl (ts := tmpsOf f_lValidWrites.results.toList) (by kernel_rfl) (cfg := cfgW g_lValidWrites) tt_ok
    (Γok_cons v_awake20 (Γok_cons v_stores (Γok_cons v_stLast (Γok_cons v_span (Γok_cons v_fresh (Γok_cons v_cells (Γok_cons v_stInstall (Γok_cons v_rhas Γok_nil)))))))) lValidWrites_tm (by kernel_rfl) ?_
  rintro ⟨(ks : List Int), (ls : List Int), (k : Int), ⟨⟩⟩ _
  refine ⟨30, (lValidWrites_rn _ _ _ _).trans ?_⟩
  unfold lValidWrites_P
  by_cases hks : (ks.length : Int) > 40
  · rw [br_dt hks]; rfl
  by_cases hl1 : (ls.length : Int) < 1
  · rw [br_df hks, br_dt hl1]; rfl
  by_cases hl2 : (ls.length : Int) > 12
  · rw [br_df hks, br_df hl1, br_dt hl2]; rfl
  obtain ⟨j, hj, hb⟩ := storesS_both ks
  have hr := spanS_ok k
  have hcb := cellsS_buf ls
  have hcl := cellsS_len ls
  have hco := onceS_cells (cellsS_ne (ks := ls) (by omega))
  rw [br_df hks, br_df hl1, br_df hl2, brNT, bd_grd (lenOk_of' (by omega))]
  simp only [sto_eta, ref_eta, sp_eta]
  generalize spanS k = sp at hr
  generalize cellsS ls = m at hcb hcl hco
  generalize (storesS ks).1 = s at hb
  have hs : stoOk s = true := (stoOk_iff _).2 hb.os
  have hsl : (lenOk [sp] && rightsS [sp]) = true := and_t rfl (rightsS_canon (canon_one hr))
  rw [bd_grd (and_t hs hsl)]
  have hall : ∀ q, newS (chnOf s.2.2.2.1 q) ≤ s.1 := fun q => (chnOf_ok hb.os q).2.1
  simp only [(clashP_false (canon_one hr) s.1).2 fun q _ => hall q, sto_eta]
  refine (br_f rfl).trans ?_
  have h3 := hb.n
  have h4 := hb.e
  have h5 := hb.most
  have hin : instS s m = ((s.1 + 1, 0), (s.1 + 1, s.2.1 + m.length, s.2.2.1, laidAll (s.1 + 1) s.2.2.2.1 m, ())) := instS_new hco (by omega) (by omega)
  have hs' := instS_ok hb.os (l := m) (by omega)
  rw [bd_grd (and_t hs (lenOk_of' (by omega)))]
  rw [hin] at hs' ⊢
  simp only at hs' ⊢
  rw [br_f (by decide)]
  have hnd := nodupK_buf hcb
  have hs2 : stoOk ((s.1 + 1, s.2.1 + (m.length : Int), s.2.2.1, laidAll (s.1 + 1) s.2.2.2.1 m, ()) : Sto) = true := (stoOk_iff _).2 hs'
  have hnew : ∀ q, s.1 < newS (chnOf (laidAll (s.1 + 1) s.2.2.2.1 m) q) ↔ ∃ c ∈ m, c.1 = q := by
    intro q
    rw [chnOf_laidAll _ _ _ _ hnd]
    cases hf : m.find? (fun c => decide (c.1 = q)) with
    | none =>
      simp only
      rw [List.find?_eq_none] at hf
      refine ⟨fun h => absurd h (by have := hall q; omega), ?_⟩
      rintro ⟨c, hc, e⟩
      exact absurd (decide_eq_true e) (hf c hc)
    | some c =>
      simp only
      rw [newS_snoc]
      have h6 := List.find?_some hf
      exact ⟨fun _ => ⟨c, List.mem_of_find?_eq_some hf, by simpa using h6⟩, fun _ => by simp only; omega⟩
  refine loopN_for (step := lValidWrites_L1) m.length (fun i => ((s.1 + 1, s.2.1 + (m.length : Int), s.2.2.1, laidAll (s.1 + 1) s.2.2.2.1 m, ()), s.1, [sp], m, (m.take i).any (fun c => hasS [sp] c.1), (i : Int), ())) (fun i hi rec => ?_) (fun rec => ?_) 30 (by omega)
  · simp only [lValidWrites_L1, Int.toNat_natCast, mk_eta]
    rw [br_dt (by omega), take_snoc m i (((0, 0), 0) : Cel) hi, List.any_append, wrapI (n := (i : Int) + 1) (by omega) (by omega)]
    cases (m.take i).any (fun c => hasS [sp] c.1) with
    | true => rfl
    | false =>
      refine (br_f rfl).trans ?_
      rw [br_dt (by omega), br_dt (by omega), bd_grd (lenOk_of' (by simp))]
      simp only [List.any_cons, List.any_nil, Bool.or_false, Bool.false_or]
      rfl
  · simp only [lValidWrites_L1]
    rw [br_df (by omega), List.take_length]
    refine (bd_grd (and_t hs2 hsl)).trans ?_
    have hmet : (clashP (laidAll (s.1 + 1) s.2.2.2.1 m) [sp] s.1).2 = m.any (fun c => hasS [sp] c.1) := by
      cases hm : m.any (fun c => hasS [sp] c.1) with
      | false =>
        refine (clashP_false (canon_one hr) _).2 fun q hq => ?_
        apply Classical.byContradiction
        intro hne
        obtain ⟨c, hc, e⟩ := (hnew q).1 (by omega)
        rw [List.any_eq_false] at hm
        exact hm c hc (e ▸ hq)
      | true =>
        cases hcc : (clashP (laidAll (s.1 + 1) s.2.2.2.1 m) [sp] s.1).2 with
        | true => rfl
        | false =>
          exfalso
          have h7 := (clashP_false (canon_one hr) _).1 hcc
          rw [List.any_eq_true] at hm
          obtain ⟨c, hc, e⟩ := hm
          have := h7 _ e
          have := (hnew c.1).2 ⟨c, hc, rfl⟩
          omega
    refine (br_t (by simp only; rw [hmet]; simp)).trans ?_
    refine (bd_grd (and_t hs2 hsl)).trans ?_
    have hfin : (clashP (laidAll (s.1 + 1) s.2.2.2.1 m) [sp] (s.1 + 1)).2 = false := (clashP_false (canon_one hr) _).2 fun q _ => (chnOf_ok hs' q).2.1
    simp only [hfin]
    rfl
end Go.BB
