/- A symbolic machine for the model's code, and what it shows of this seat's functions. No conditions. -/
import Derived.Test.YteaomngbkklfoaaRLawView
set_option linter.unusedSimpArgs false
set_option linter.unusedVariables false
namespace Go.BB
open Go Go.Proofs
set_option maxRecDepth 100000
theorem viewRead_fit {v : Vw} {s : Spn} {most : Int} (h : ((readsS v s).length : Int) ≤ most) (l : List Int) : viewRead v s most l = (((v.1, readsS v s, v.2.2), l), 0) := if_neg (by omega)
theorem viewWrite_fit {v : Vw} {l : List Cel} {most : Int} (h : ((writesS v l).length : Int) ≤ most) : viewWrite v l most = ((v.1, v.2.1, writesS v l), 0) := if_neg (by omega)
theorem readsS_len (v : Vw) (s : Spn) : (readsS v s).length ≤ v.2.1.length + v.2.2.length + 1 := by
  have h1 := addAll_len (restS v.2.2 s) v.2.1
  have h2 := restS_len v.2.2 s
  unfold readsS; omega
theorem readsS_canon {v : Vw} (hv : ViewOk v) {s : Spn} (hs : spanR s = true) : canonS (readsS v s) = true := addAll_canon hv.canon (rest_right hv.buf hs)
theorem readsS_has {v : Vw} (hv : ViewOk v) {s : Spn} (hs : spanR s = true) (k : Key) : hasS (readsS v s) k = true ↔ hasS v.2.1 k = true ∨ (hasS [s] k = true ∧ (getK v.2.2 k).2 = false) := by
  unfold readsS
  rw [addAll_has k hv.canon (rest_right hv.buf hs), (restS_all v.2.2 hv.buf s hs).2.2.1 k, Bool.and_eq_true, Bool.not_eq_true']
theorem restS_nil {s : Spn} (hs : spanR s = true) : restS [] s = [s] := by
  have h := (spanR_iff.1 hs).2.2.2.2
  show restGo s.1 s.2.2 ([].drop _) s.2.1 = _
  rw [List.drop_nil, restGo_nil]
  unfold tailS
  rw [if_pos h]
theorem getK_one (c : Cel) (k : Key) : getK [c] k = if c.1 = k then (c.2, true) else (0, false) := by
  rw [getK_find rfl, List.find?_cons]
  by_cases h : c.1 = k
  · rw [decide_eq_true h, if_pos h]
  · rw [decide_eq_false h, if_neg h]; rfl
theorem cell_span (k : Int) : spanR ((cellS k).1.1, (cellS k).1.2, (cellS k).1.2 + 1) = true := by
  have h := keyS_ok k
  have e : (cellS k).1 = keyS k := rfl
  rw [e]
  exact spanR_iff.2 ⟨h.1, h.2.1, h.2.2.1, by show (keyS k).2 + 1 ≤ 65536; omega, by show (keyS k).2 < (keyS k).2 + 1; omega⟩
theorem beq_of_eq {a b : Bool} (h : a = b) : (a == b) = true := by rw [h]; simp
theorem lv_ViewBlind : Valid Try.prog n_lViewBlind ⟨valsOf [tI, .bool], [.val .bool], Fok (tys := [tI, .bool]) (fun _ => true) ((), (), ())⟩ := by
  refine valid_law mixed hf_lViewBlind (by kernel_rfl) rfl (ts := tmpsOf f_lViewBlind.results.toList) (by kernel_rfl) (cfg := cfgW g_lViewBlind) tt_ok
    (Γok_cons v_awake19 (Γok_cons v_stNew (Γok_cons v_cell (Γok_cons v_viewRead (Γok_cons v_viewWrite (Γok_cons v_rhas Γok_nil)))))) lViewBlind_tm (by kernel_rfl) ?_
  rintro ⟨(k : Int), (ahead : Bool), ⟨⟩⟩ _
  refine ⟨0, (lViewBlind_rn _ _ _).trans ?_⟩
  unfold lViewBlind_P
  have h := keyS_ok k
  have hk : (cellS k).1 = keyS k := rfl
  have hr := cell_span k
  rw [brNT, wrapI (n := (cellS k).1.2 + 1) (by rw [hk]; omega) (by rw [hk]; omega)]
  simp only [sto_eta, mk_eta]
  have hin : hasS [((cellS k).1.1, (cellS k).1.2, (cellS k).1.2 + 1)] (cellS k).1 = true := (hasS_one1 _ _).2 ⟨rfl, Int.le_refl _, by show (cellS k).1.2 < (cellS k).1.2 + 1; omega⟩
  have hln : ∀ (m : Chs) (v : Vw), (lookP m v ((cellS k).1.1, (cellS k).1.2, (cellS k).1.2 + 1)).length = 1 := fun m v => by rw [lookP_len]; show ((cellS k).1.2 + 1 - (cellS k).1.2).toNat = 1; omega
  have hlk : ∀ (m : Chs) (q : Int) (r : List Spn), (lookP m (q, r, [cellS k]) ((cellS k).1.1, (cellS k).1.2, (cellS k).1.2 + 1)).getD 0 0 = (cellS k).2 := fun m q r => by
    unfold lookP
    rw [lookN_get _ _ _ _ _ _ _ (by show 0 < ((cellS k).1.2 + 1 - (cellS k).1.2).toNat; omega)]
    simp only [Int.natCast_zero, Int.add_zero, mk_eta, getK_one, if_true]
  generalize cellS k = c at hr hin hln hlk
  have hs : stoOk (stNewS 0 10) = true := (stoOk_iff _).2 (stNewS_ok 10 (by decide) (by decide))
  have h0 := viewOk_nil 0
  have hpk : putK [] c = [c] := by rw [putK_eq]; rfl
  -- what is told of a view with some spans
  have hvw : ∀ r : List Spn, canonS r = true → r.length ≤ 3 → ViewOk (0, r, [c]) := fun r h1 h2 => ⟨h1, rfl, by simp only; omega, by simp⟩
  have hrd : ∀ r : List Spn, canonS r = true → r.length ≤ 3 → ∀ l, viewRead (0, r, [c]) (c.1.1, c.1.2, c.1.2 + 1) 9 l = (((0, readsS (0, r, [c]) (c.1.1, c.1.2, c.1.2 + 1), [c]), l), 0) := fun r h1 h2 l =>
    viewRead_fit (by have := readsS_len (0, r, [c]) (c.1.1, c.1.2, c.1.2 + 1); simp only [List.length_cons, List.length_nil] at this; omega) l
  have hhas : ∀ r : List Spn, canonS r = true → r.length ≤ 3 → hasS (readsS (0, r, [c]) (c.1.1, c.1.2, c.1.2 + 1)) c.1 = hasS r c.1 := fun r h1 h2 => by
    rw [← Bool.coe_iff_coe, readsS_has (hvw r h1 h2) hr]
    simp only [getK_one, if_true]
    simp
  have hrl : ∀ r : List Spn, r.length ≤ 3 → lenOk (readsS (0, r, [c]) (c.1.1, c.1.2, c.1.2 + 1)) = true := fun r h2 => lenOk_of' (by
    have := readsS_len (0, r, [c]) (c.1.1, c.1.2, c.1.2 + 1)
    simp only [List.length_cons, List.length_nil] at this
    omega)
  have hww : ∀ r : List Spn, viewWrite (0, r, []) [c] 9 = ((0, r, [c]), 0) := fun r => by
    have e : writesS (0, r, []) [c] = [c] := by show putK [] c = [c]; exact hpk
    rw [viewWrite_fit (by rw [e]; simp), e]
  cases ahead with
  | false =>
    refine (br_f rfl).trans ?_
    refine (bd_grd (and_t (vok h0) (by simp))).trans ?_
    have hwv := hww []
    simp only [vw_eta]
    simp only [List.take_length, hww]
    refine (bd_grd (and_t hs (and_t (vok (hvw [] rfl (by simp))) hr))).trans ?_
    simp only [hrd [] rfl (by simp)]
    refine (br_t (by decide)).trans ?_
    refine (br_t (by decide)).trans ?_
    refine (br_t (by rw [hln]; decide)).trans ?_
    refine (br_dt (by rw [hln]; decide)).trans ?_
    refine (br_t (beq_iff_eq.2 (hlk _ _ _))).trans ?_
    refine (bd_grd (hrl [] (by simp))).trans ?_
    simp only [hhas [] rfl (by simp)]
    rfl
  | true =>
    refine (br_t rfl).trans ?_
    refine (bd_grd (and_t hs (and_t (vok h0) hr))).trans ?_
    have hl0 := readsS_len (0, [], []) (c.1.1, c.1.2, c.1.2 + 1)
    simp only [List.length_nil] at hl0
    have hc0 := readsS_canon h0 hr
    have hh0 : hasS (readsS (0, [], []) (c.1.1, c.1.2, c.1.2 + 1)) c.1 = true := (readsS_has h0 hr c.1).2 (.inr ⟨hin, rfl⟩)
    have hf0 : ∀ l, viewRead (0, [], []) (c.1.1, c.1.2, c.1.2 + 1) 9 l = (((0, readsS (0, [], []) (c.1.1, c.1.2, c.1.2 + 1), []), l), 0) := fun l => viewRead_fit (by omega) l
    simp only [hf0]
    generalize readsS (0, [], []) (c.1.1, c.1.2, c.1.2 + 1) = r at hl0 hc0 hh0
    refine (br_f (by decide)).trans ?_
    refine (bd_grd (and_t (vok ⟨hc0, rfl, by simp only; omega, by simp⟩) (by simp))).trans ?_
    simp only [List.take_length, hww]
    refine (bd_grd (and_t hs (and_t (vok (hvw r hc0 (by omega))) hr))).trans ?_
    simp only [hrd r hc0 (by omega)]
    refine (br_t (by decide)).trans ?_
    refine (br_t (by decide)).trans ?_
    refine (br_t (by rw [hln]; decide)).trans ?_
    refine (br_dt (by rw [hln]; decide)).trans ?_
    refine (br_t (beq_iff_eq.2 (hlk _ _ _))).trans ?_
    refine (bd_grd (hrl r (by omega))).trans ?_
    simp only [hhas r hc0 (by omega), hh0]
    rfl
/-! ViewAgain -/
def addBy (f : Nat → Spn) : Nat → List Spn
  | 0 => []
  | i + 1 => addGo (addBy f i) (f i)
theorem addBy_canon {f : Nat → Spn} (hf : ∀ j, spanR (f j) = true) : ∀ i, canonS (addBy f i) = true
  | 0 => rfl
  | i + 1 => addGo_canon (addBy_canon hf i) (hf i)
theorem addBy_len (f : Nat → Spn) : ∀ i, (addBy f i).length ≤ i
  | 0 => Nat.le_refl _
  | i + 1 => by
    have h1 := addGo_len (addBy f i) (f i)
    have h2 := addBy_len f i
    show (addGo (addBy f i) (f i)).length ≤ _
    omega
theorem addBy_has {f : Nat → Spn} (hf : ∀ j, spanR (f j) = true) (k : Key) : ∀ i, hasS (addBy f i) k = true ↔ ∃ j, j < i ∧ hasS [f j] k = true
  | 0 => ⟨fun h => (by cases h), fun ⟨j, h, _⟩ => absurd h (Nat.not_lt_zero j)⟩
  | i + 1 => by
    show hasS (addGo (addBy f i) (f i)) k = true ↔ _
    rw [addGo_has k _ _ (addBy_canon hf i) (hf i), addBy_has hf k i, ← hasS_one1]
    constructor
    · rintro (⟨j, h1, h2⟩ | h)
      · exact ⟨j, by omega, h2⟩
      · exact ⟨i, by omega, h⟩
    · rintro ⟨j, h1, h2⟩
      by_cases e : j = i
      · subst e; exact .inr h2
      · exact .inl ⟨j, by omega, h2⟩
theorem canonS_pair : ∀ {l : List Spn}, canonS l = true → ∀ x ∈ l, ∀ y ∈ l, x = y ∨ aheadS x y = true ∨ aheadS y x = true
  | [], _, _, h, _, _ => by cases h
  | z :: l, hc, x, hx, y, hy => by
    have h := canonS_iff.1 hc
    rcases List.mem_cons.1 hx with e | hx'
    · rcases List.mem_cons.1 hy with e' | hy'
      · exact .inl (e.trans e'.symm)
      · exact .inr (.inl (e ▸ h.2.1 y hy'))
    · rcases List.mem_cons.1 hy with e' | hy'
      · exact .inr (.inr (e' ▸ h.2.1 x hx'))
      · exact canonS_pair h.2.2 x hx' y hy'
theorem has_mem {l : List Spn} {k : Key} (h : hasS l k = true) : ∃ z ∈ l, z.1 = k.1 ∧ z.2.1 ≤ k.2 ∧ k.2 < z.2.2 := by
  simp only [hasS, List.any_eq_true, Bool.and_eq_true, decide_eq_true_eq] at h
  exact h
theorem cover_of_has {l : List Spn} (hc : canonS l = true) {p : Spn} (hp : spanR p = true) (h : ∀ k, hasS [p] k = true → hasS l k = true) : coverS l p = true := by
  have hp' := spanR_iff.1 hp
  obtain ⟨x, hx, e1, e2, e3⟩ := has_mem (h (p.1, p.2.1) ((hasS_one1 _ _).2 ⟨rfl, Int.le_refl _, hp'.2.2.2.2⟩))
  simp only at e1 e2 e3
  unfold coverS
  rw [List.any_eq_true]
  refine ⟨x, hx, ?_⟩
  simp only [Bool.and_eq_true, decide_eq_true_eq]
  refine ⟨e1, e2, ?_⟩
  apply Classical.byContradiction
  intro hne
  obtain ⟨y, hy, g1, g2, g3⟩ := has_mem (h (p.1, x.2.2) ((hasS_one1 _ _).2 ⟨rfl, by simp only; omega, by simp only; omega⟩))
  simp only at g1 g2 g3
  rcases canonS_pair hc x hx y hy with e | e | e
  · subst e; omega
  · have := aheadS_iff.1 e; omega
  · have := aheadS_iff.1 e
    have hx' := spanR_iff.1 (canonS_right hc x hx)
    omega
theorem readsS_nil (q : Int) (r : List Spn) {p : Spn} (hp : spanR p = true) : readsS (q, r, []) p = addGo r p := by
  show addAll r (restS [] p) = _
  rw [restS_nil hp]; rfl
theorem addGo_twice {r : List Spn} (hr : canonS r = true) {p : Spn} (hp : spanR p = true) : addGo (addGo r p) p = addGo r p := by
  refine canon_ext (addGo_canon (addGo_canon hr hp) hp) (addGo_canon hr hp) fun k => ?_
  rw [addGo_has k _ _ (addGo_canon hr hp) hp, addGo_has k _ _ hr hp]
  constructor
  · rintro (h | h)
    · exact h
    · exact .inr h
  · exact .inl
theorem turn_all (n : Nat) (h0 : 0 < n) (t : Int) (j : Nat) (hj : j < n) : ∃ i, i < n ∧ ((t + (i : Int)) % (n : Int)).toNat = j := by
  have h1 := Int.emod_nonneg ((j : Int) - t) (show (n : Int) ≠ 0 by omega)
  have h2 := Int.emod_lt_of_pos ((j : Int) - t) (show (0 : Int) < n by omega)
  refine ⟨(((j : Int) - t) % (n : Int)).toNat, by omega, ?_⟩
  rw [Int.toNat_of_nonneg h1, Int.add_emod, Int.emod_emod, ← Int.add_emod, show t + ((j : Int) - t) = j by omega, Int.emod_eq_of_lt (by omega) (by omega)]
  omega
theorem short_len (k : Int) : ((shortS k).2.2 - (shortS k).2.1).toNat ≤ 60 := by
  show (min (spanS k).2.2 ((spanS k).2.1 + 60) - (spanS k).2.1).toNat ≤ 60
  omega
theorem lv_ViewAgain : Valid Try.prog n_lViewAgain ⟨valsOf [.slice tI, tI, .slice tI], [.val .bool], Fok (tys := [.slice tI, tI, .slice tI]) (fun _ => true) ((), (), (), ())⟩ := by
  refine valid_law mixed hf_lViewAgain (by kernel_rfl) rfl (ts := tmpsOf f_lViewAgain.results.toList) (by kernel_rfl) (cfg := cfgW g_lViewAgain) tt_ok
    (Γok_cons v_awake19 (Γok_cons v_stores (Γok_cons v_stLast (Γok_cons v_within (Γok_cons v_short (Γok_cons v_viewRead (Γok_cons v_sameWords (Γok_cons v_sameSpans (Γok_cons v_rcovers (Γok_cons v_rcanon Γok_nil)))))))))) lViewAgain_tm (by kernel_rfl) ?_
  rintro ⟨(l : List Int), (turn : Int), (ks : List Int), ⟨⟩⟩ _
  refine ⟨20, (lViewAgain_rn _ _ _ _).trans ?_⟩
  unfold lViewAgain_P
  by_cases hl : (l.length : Int) > 12
  · rw [br_dt hl]; rfl
  by_cases hks : (ks.length : Int) > 40
  · rw [br_df hl, br_dt hks]; rfl
  obtain ⟨j, hj, hb⟩ := storesS_both ks
  rw [br_df hl, br_df hks, brNT, bd_grd (lenOk_of' (by omega))]
  simp only [sto_eta]
  generalize (storesS ks).1 = s at hb
  have hs : stoOk s = true := (stoOk_iff _).2 hb.os
  have t0 := Int.emod_nonneg turn (show (12 : Int) ≠ 0 by decide)
  have t1 := Int.emod_lt_of_pos turn (show (0 : Int) < 12 by decide)
  have hf : ∀ i : Nat, spanR (shortS (l.getD i 0)) = true := fun i => short_right _
  have hg : ∀ i : Nat, spanR (shortS (l.getD ((turn % 12 + (i : Int)) % (l.length : Int)).toNat 0)) = true := fun i => short_right _
  refine loopN_for (step := lViewAgain_L1) l.length (fun i => (l, turn, s, (s.1, addBy (fun i => shortS (l.getD i 0)) i, [], ()), (s.1, addBy (fun i => shortS (l.getD ((turn % 12 + (i : Int)) % (l.length : Int)).toNat 0)) i, [], ()), (i : Int), ())) (fun i hi rec => ?_) (fun rec => ?_) 20 (by omega)
  · have m0 := Int.emod_nonneg (turn % 12 + (i : Int)) (show (l.length : Int) ≠ 0 by omega)
    have m1 := Int.emod_lt_of_pos (turn % 12 + (i : Int)) (show (0 : Int) < l.length by omega)
    have ca := addBy_canon hf i
    have cb := addBy_canon hg i
    have la := addBy_len (fun i => shortS (l.getD i 0)) i
    have lb := addBy_len (fun i => shortS (l.getD ((turn % 12 + (i : Int)) % (l.length : Int)).toNat 0)) i
    have ea : addBy (fun i => shortS (l.getD i 0)) (i + 1) = addGo (addBy (fun i => shortS (l.getD i 0)) i) (shortS (l.getD i 0)) := rfl
    have eb : addBy (fun i => shortS (l.getD ((turn % 12 + (i : Int)) % (l.length : Int)).toNat 0)) (i + 1) = addGo (addBy (fun i => shortS (l.getD ((turn % 12 + (i : Int)) % (l.length : Int)).toNat 0)) i) (shortS (l.getD ((turn % 12 + (i : Int)) % (l.length : Int)).toNat 0)) := rfl
    have hp := hf i
    have hq := hg i
    have hlen := short_len (l.getD i 0)
    simp only [lViewAgain_L1, sto_eta, Int.toNat_natCast, sp_eta]
    rw [br_dt (by omega), br_dt (by omega), br_dt (by omega)]
    refine (bd_grd (by decide)).trans ?_
    refine (bd_grd (and_t (decide_eq_true (by omega)) (decide_eq_true (by omega)))).trans ?_
    simp only [sp_eta]
    rw [wrapI (n := turn % 12 + (i : Int)) (by omega) (by omega), br_dt m0, br_dt m1, ea, eb]
    generalize shortS (l.getD i 0) = p at hp hlen
    generalize shortS (l.getD ((turn % 12 + (i : Int)) % (l.length : Int)).toNat 0) = p' at hq
    generalize addBy (fun i => shortS (l.getD i 0)) i = A at ca la
    generalize addBy (fun i => shortS (l.getD ((turn % 12 + (i : Int)) % (l.length : Int)).toNat 0)) i = B at cb lb
    have oa : ViewOk (s.1, A, []) := ⟨ca, rfl, by simp only; omega, by simp⟩
    have ob : ViewOk (s.1, B, []) := ⟨cb, rfl, by simp only; omega, by simp⟩
    have ga := addGo_len A p
    have gb := addGo_len B p'
    have oc : ViewOk (s.1, addGo A p, []) := ⟨addGo_canon ca hp, rfl, by simp only; omega, by simp⟩
    have fa : ∀ x, viewRead (s.1, A, []) p 50 x = (((s.1, addGo A p, []), x), 0) := fun x => by
      rw [viewRead_fit (by rw [readsS_nil _ _ hp]; omega), readsS_nil _ _ hp]
    have fb : ∀ x, viewRead (s.1, B, []) p' 50 x = (((s.1, addGo B p', []), x), 0) := fun x => by
      rw [viewRead_fit (by rw [readsS_nil _ _ hq]; omega), readsS_nil _ _ hq]
    have fc : ∀ x, viewRead (s.1, addGo A p, []) p 50 x = (((s.1, addGo A p, []), x), 0) := fun x => by
      rw [viewRead_fit (by rw [readsS_nil _ _ hp, addGo_twice ca hp]; omega), readsS_nil _ _ hp, addGo_twice ca hp]
    refine (bd_grd (and_t hs (and_t (vok oa) hp))).trans ?_
    simp only [fa]
    refine (bd_grd (and_t hs (and_t (vok ob) hq))).trans ?_
    simp only [fb]
    refine (bd_grd (and_t hs (and_t (vok oc) hp))).trans ?_
    simp only [fc]
    refine (br_f (by decide)).trans ?_
    refine (br_f (by decide)).trans ?_
    refine (br_f (by decide)).trans ?_
    refine (bd_grd (decide_eq_true (by rw [lookP_len]; omega))).trans ?_
    refine (br_f (congrArg (!·) (sameS_self (lookP s.2.2.2.1 (s.1, A, []) p)))).trans ?_
    refine (bd_grd (decide_eq_true (by omega))).trans ?_
    refine (br_f (congrArg (!·) (sameS_self _))).trans ?_
    refine (bd_grd (lenOk_of' (by omega))).trans ?_
    have hcov := cover_of_has (addGo_canon ca hp) hp fun k hk => (addGo_has k A p ca hp).2 (.inr ((hasS_one1 _ _).1 hk))
    refine (br_f (congrArg (!·) hcov)).trans ?_
    rw [wrapI (n := (i : Int) + 1) (by omega) (by omega)]
    rfl
  · have ca := addBy_canon hf l.length
    have cb := addBy_canon hg l.length
    have la := addBy_len (fun i => shortS (l.getD i 0)) l.length
    have e : addBy (fun i => shortS (l.getD i 0)) l.length = addBy (fun i => shortS (l.getD ((turn % 12 + (i : Int)) % (l.length : Int)).toNat 0)) l.length := by
      refine canon_ext ca cb fun k => ?_
      rw [addBy_has hf, addBy_has hg]
      constructor
      · rintro ⟨j, h1, h2⟩
        obtain ⟨i, h3, h4⟩ := turn_all l.length (by omega) (turn % 12) j h1
        exact ⟨i, h3, by rw [h4]; exact h2⟩
      · rintro ⟨i, h1, h2⟩
        have m0 := Int.emod_nonneg (turn % 12 + (i : Int)) (show (l.length : Int) ≠ 0 by omega)
        have m1 := Int.emod_lt_of_pos (turn % 12 + (i : Int)) (show (0 : Int) < l.length by omega)
        exact ⟨_, by omega, h2⟩
    simp only [lViewAgain_L1]
    rw [br_df (by omega), ← e]
    refine (bd_grd (decide_eq_true (by omega))).trans ?_
    refine (br_t (sameS_self _)).trans ?_
    refine (bd_grd (lenOk_of' (by omega))).trans ?_
    refine (br_t ca).trans ?_
    rfl
end Go.BB
