/- A symbolic machine for the model's code, and what it shows of this seat's functions. No conditions. -/
import Derived.Test.YtcdnkkakfkkpgaaGbuffl
import Derived.Test.YtcdnkkakfkkpgaaVbuff2
import Derived.Test.YtcdnkkakfkkpgaaLawKit
set_option linter.unusedSimpArgs false
set_option linter.unusedVariables false
namespace Go.BB
open Go Go.Proofs
set_option maxRecDepth 100000
theorem v_awake18 : Valid Try.prog n_awake18 c_awake18 := by
  refine valid_fn mixed hf_awake18 (by kernel_rfl) rfl (ts := tmpsOf f_awake18.results.toList) (by kernel_rfl) (cfg := cfgW g_awake18) tt_ok (Γok_cons v_rest Γok_nil) [] c_awake18 (by kernel_rfl) (fun _ _ _ _ => ⟨⟩) ?_
  rintro ⟨⟩ r u h
  exact ⟨3, awake18_rn.trans h⟩
theorem lenOk_of' {α : Type} {l : List α} (h : l.length < 1000000) : lenOk l = true := decide_eq_true h
theorem key_beq3 (a b : Cel) : (a.1.1 == b.1.1 && a.1.2 == b.1.2 && a.2 == b.2) = decide (a = b) := by
  rw [← Bool.coe_iff_coe]
  simp only [Bool.and_eq_true, beq_iff_eq, decide_eq_true_eq]
  exact ⟨fun h => Prod.ext (Prod.ext h.1.1 h.1.2) h.2, fun h => by subst h; exact ⟨⟨rfl, rfl⟩, rfl⟩⟩
/-! what is laid -/
theorem lay_len (t : Int) : ∀ (ws : List Int) (a : Int), (layFrom t a ws).length = ws.length
  | [], a => rfl
  | w :: ws, a => by simp [layFrom, lay_len t ws (a + 1)]
theorem lay_get (t : Int) (z : Cel) : ∀ (ws : List Int) (a : Int) (i : Nat), i < ws.length → (layFrom t a ws).getD i z = ((t, a + i), ws.getD i 0)
  | [], _, _, h => by simp at h
  | w :: ws, a, 0, h => by simp [layFrom]
  | w :: ws, a, i + 1, h => by
    simp only [layFrom, List.getD_cons_succ, lay_get t z ws (a + 1) i (by simpa using h)]
    congr 2
    push_cast; omega
theorem lay_buf (t a : Int) (ws : List Int) : bufS (layFrom t a ws) = true := by
  refine bufS_of_lt fun i hi => ?_
  rw [lay_len] at hi
  rw [lay_get _ _ _ _ _ (by omega), lay_get _ _ _ _ _ hi, keyLt_iff]
  refine .inr ⟨rfl, ?_⟩
  show a + (i : Int) < a + ((i + 1 : Nat) : Int)
  omega
theorem lv_BuffLays : Valid Try.prog n_lBuffLays ⟨valsOf [tKey, .slice tW], [.val .bool], Fok (tys := [tKey, .slice tW]) (fun (x : Key × List Int × Unit) => decide (-9223372036854775808 ≤ x.1.2)) ((), (), ())⟩ := by
  refine valid_law mixed hf_lBuffLays (by kernel_rfl) rfl (ts := tmpsOf f_lBuffLays.results.toList) (by kernel_rfl) (cfg := cfgW g_lBuffLays) tt_ok
    (Γok_cons v_awake18 (Γok_cons v_lentWords (Γok_cons v_lay (Γok_cons v_bright (Γok_cons v_staysWords Γok_nil))))) lBuffLays_tm (by kernel_rfl) ?_
  rintro ⟨(k : Key), (ws : List Int), ⟨⟩⟩ h1
  simp only [decide_eq_true_eq] at h1
  refine ⟨61, (lBuffLays_rn _ _ _).trans ?_⟩
  unfold lBuffLays_P
  by_cases hl : (ws.length : Int) > 60
  · rw [br_dt hl]; rfl
  rw [br_df hl]
  by_cases ha : k.2 > 1099511627776
  · rw [br_dt ha]; rfl
  rw [br_df ha, brNT, bd_grd (by simp; omega)]
  simp only [take_drop0]
  rw [bd_grd (and_t (lenOk_of' (by omega)) (by simp; omega))]
  simp only [lay_len]
  rw [br_f (by simp), bd_grd (lenOk_of' (by rw [lay_len]; omega))]
  simp only [lay_buf]
  rw [brNT', bd_grd (by rw [staysS_lent]; simp; omega)]
  simp only
  rw [brNT']
  refine loopN_for (step := lBuffLays_L1) ws.length (fun i => (ws, (k.1, k.2, ()), layFrom k.1 k.2 ws, (i : Int), ())) (fun i hi rec => ?_) (fun rec => ?_) 61 (by omega)
  · simp only [lBuffLays_L1, Int.toNat_natCast, lay_len, lay_get _ _ _ _ _ hi]
    rw [br_dt (by omega), br_dt (by omega), br_dt (by omega), br_dt (by omega), br_dt (by omega), wrapI (n := k.2 + (i : Int)) (by omega) (by omega), br_f (by simp), wrapI (by omega) (by omega)]
    rfl
  · simp only [lBuffLays_L1, lay_len]
    rw [br_df (by omega)]
    rfl
where brNT' {α : Type} {x y : α} : br (!true) x y = y := rfl
theorem keyIn {k : Key} (h : InR2 tKey k) : decide (-9223372036854775808 ≤ k.2) = true := by
  have h2 : InR2 (.int .i64) k.2 := h.2
  simp only [InR2, Lit.wf] at h2
  simp only [IntKind.min, IntKind.max, IntKind.signed, IntKind.bits] at h2
  simp at h2 ⊢
  omega
/-! two cells that change places -/
theorem bufS_swap {x : List Cel} (hb : bufS x = true) (z : Cel) {i j : Nat} (hi : i < x.length) (hj : j < x.length) : bufS ((x.set i (x.getD j z)).set j (x.getD i z)) = decide (i = j) := by
  by_cases e : i = j
  · subst e
    have : (x.set i (x.getD i z)).set i (x.getD i z) = x := by
      rw [List.set_set, List.getD_eq_getElem?_getD, List.getElem?_eq_getElem hi]
      exact List.set_getElem_self hi
    rw [this, hb]; simp
  · rw [decide_eq_false e]
    cases h : bufS ((x.set i (x.getD j z)).set j (x.getD i z)) with
    | false => rfl
    | true =>
      exfalso
      have gi : ((x.set i (x.getD j z)).set j (x.getD i z)).getD i z = x.getD j z := by
        simp only [List.getD_eq_getElem?_getD]
        rw [List.getElem?_set_ne (fun h => e h.symm), List.getElem?_set_self hi]; rfl
      have gj : ((x.set i (x.getD j z)).set j (x.getD i z)).getD j z = x.getD i z := by
        simp only [List.getD_eq_getElem?_getD]
        rw [List.getElem?_set_self (by rw [List.length_set]; exact hj)]; rfl
      have hlen : ((x.set i (x.getD j z)).set j (x.getD i z)).length = x.length := by simp
      rcases Nat.lt_or_gt_of_ne e with hij | hij
      · have h1 := bufS_lt h i j z hij (by omega)
        have h2 := bufS_lt hb i j z hij hj
        rw [gi, gj] at h1
        have := keyLt_asymm h1
        rw [h2] at this; cases this
      · have h1 := bufS_lt h j i z hij (by omega)
        have h2 := bufS_lt hb j i z hij hi
        rw [gi, gj] at h1
        have := keyLt_asymm h1
        rw [h2] at this; cases this
theorem bufS_twice {x : List Cel} (z : Cel) {i : Nat} (hi : i < x.length) : bufS (x ++ [x.getD i z]) = false := by
  cases h : bufS (x ++ [x.getD i z]) with
  | false => rfl
  | true =>
    have h1 := bufS_lt h i x.length z hi (by simp)
    rw [getD_app_lt _ _ _ _ hi, getD_app_ge _ _ _ _ (Nat.le_refl _), Nat.sub_self] at h1
    have : keyLt (x.getD i z).1 (x.getD i z).1 = true := h1
    rw [keyLt_irrefl] at this; cases this
theorem lv_BuffTells : Valid Try.prog n_lBuffTells ⟨valsOf [.slice tCell, .slice tI, tI, tI], [.val .bool], Fok (tys := [.slice tCell, .slice tI, tI, tI]) (fun _ => true) ((), (), (), (), ())⟩ := by
  refine valid_law mixed hf_lBuffTells (by kernel_rfl) rfl (ts := tmpsOf f_lBuffTells.results.toList) (by kernel_rfl) (cfg := cfgW g_lBuffTells) tt_ok
    (Γok_cons v_awake18 (Γok_cons v_lentCells (Γok_cons v_cells (Γok_cons v_bright (Γok_cons v_rbright (Γok_cons v_staysCells (Γok_cons v_within Γok_nil))))))) lBuffTells_tm (by kernel_rfl) ?_
  rintro ⟨(l : List Cel), (ks : List Int), (i : Int), (j : Int), ⟨⟩⟩ _
  refine ⟨0, (lBuffTells_rn _ _ _ _ _).trans ?_⟩
  unfold lBuffTells_P
  by_cases hl : (l.length : Int) > 40
  · rw [br_dt hl]; rfl
  have hcl := cellsS_len ks
  rw [br_df hl, brNT, bd_grd (by simp; omega)]
  simp only [take_drop0]
  rw [bd_grd (lenOk_of' (by omega)), bd_grd (lenOk_of' (by omega))]
  simp only
  rw [br_f (by simp), bd_grd (by rw [staysS_lent]; simp; omega)]
  simp only
  rw [brNT, bd_grd (lenOk_of' (by omega))]
  simp only [cellsS_buf]
  rw [brNT]
  by_cases h0 : (cellsS ks).length = 0
  · rw [br_t (by rw [h0]; rfl)]; rfl
  · have hi := Int.emod_nonneg i (show ((cellsS ks).length : Int) ≠ 0 by omega)
    have hi2 := Int.emod_lt_of_pos i (show (0 : Int) < (cellsS ks).length by omega)
    have hj := Int.emod_nonneg j (show ((cellsS ks).length : Int) ≠ 0 by omega)
    have hj2 := Int.emod_lt_of_pos j (show (0 : Int) < (cellsS ks).length by omega)
    rw [br_f (beq_eq_false_iff_ne.2 (by omega)), bd_grd (by simp; omega), bd_grd (by simp; omega)]
    simp only [mk_eta, List.length_set, cat]
    rw [br_dt (lim_mul (by omega) (by decide)), br_dt (lim_le (by omega)), br_dt (by omega), br_dt (by omega), br_dt (lim_mul (by simp; omega) (by decide)), br_dt (lim_le (by simp; omega)), br_dt (by omega), br_dt (by omega), br_dt (by omega), br_dt (by omega), br_dt (by omega), br_dt (by omega), br_dt (by omega), br_dt (by omega), bd_grd (lenOk_of' (by simp; omega))]
    simp only
    have hsw := bufS_swap (cellsS_buf ks) ((0, 0), 0) (i := (i % ((cellsS ks).length : Int)).toNat) (j := (j % ((cellsS ks).length : Int)).toNat) (by omega) (by omega)
    rw [hsw, br_t (by
      rw [beq_iff_eq, ← Bool.coe_iff_coe, decide_eq_true_eq, beq_iff_eq]; omega), bd_grd (lenOk_of' (by simp; omega))]
    simp only
    rw [bufS_twice ((0, 0), 0) (by omega)]
    rfl
theorem putK_len (l : List Cel) (c : Cel) : (putK l c).length ≤ l.length + 1 := by rw [putK_eq]; exact putR_len l c
theorem bufS_putK {l : List Cel} (c : Cel) (h : bufS l = true) : bufS (putK l c) = true := by rw [putK_eq]; exact bufS_put c h
theorem getK_put {l : List Cel} (c : Cel) (h : bufS l = true) : getK (putK l c) c.1 = (c.2, true) := by rw [getK_eq, putK_eq, getR_put c c.1 h, if_pos rfl]
theorem restGo_len (t to : Int) : ∀ (l : List Cel) (f : Int), (restGo t to l f).length ≤ l.length + 1
  | [], f => by rw [restGo_nil]; have := tailS_len t f to; simp only [List.length_nil]; omega
  | c :: l, f => by
    by_cases h : c.1.1 = t ∧ c.1.2 < to
    · rw [restGo_in h, List.length_append]
      have h1 := tailS_len t f c.1.2
      have h2 := restGo_len t to l (c.1.2 + 1)
      simp only [List.length_cons]; omega
    · rw [restGo_out h]
      have := tailS_len t f to
      simp only [List.length_cons]; omega
theorem restS_len (l : List Cel) (s : Spn) : (restS l s).length ≤ l.length + 1 := by
  unfold restS
  have := restGo_len s.1 s.2.2 (l.drop (cntK l (s.1, s.2.1))) s.2.1
  rw [List.length_drop] at this
  omega
theorem lv_BuffPuts : Valid Try.prog n_lBuffPuts ⟨valsOf [.slice tI, tCell, .bool, tI], [.val .bool], Fok (tys := [.slice tI, tCell, .bool, tI]) (fun _ => true) ((), (), (), (), ())⟩ := by
  refine valid_law mixed hf_lBuffPuts (by kernel_rfl) rfl (ts := tmpsOf f_lBuffPuts.results.toList) (by kernel_rfl) (cfg := cfgW g_lBuffPuts) tt_ok
    (Γok_cons v_awake18 (Γok_cons v_cells (Γok_cons v_span (Γok_cons v_cell (Γok_cons v_lentCells (Γok_cons v_put (Γok_cons v_bget (Γok_cons v_rbget (Γok_cons v_rput (Γok_cons v_sameCells (Γok_cons v_rest (Γok_cons v_rrest (Γok_cons v_sameSpans (Γok_cons v_staysCells Γok_nil)))))))))))))) lBuffPuts_tm (by kernel_rfl) ?_
  rintro ⟨(ks : List Int), (c : Cel), (near : Bool), (k : Int), ⟨⟩⟩ _
  refine ⟨0, (lBuffPuts_rn _ _ _ _ _).trans ?_⟩
  unfold lBuffPuts_P
  have hcl := cellsS_len ks
  have hb := cellsS_buf ks
  have hco : lenOk (cellsS ks) = true := lenOk_of' (by omega)
  have hp : ∀ c, lenOk (putK (cellsS ks) c) = true := fun c => lenOk_of' (by have := putK_len (cellsS ks) c; omega)
  have hp2 : ∀ c, (putK (cellsS ks) c).length < 1000000 := fun c => by have := putK_len (cellsS ks) c; omega
  have hr2 : ∀ s, (restS (cellsS ks) s).length < 1000000 := fun s => by have := restS_len (cellsS ks) s; omega
  rw [brNT]
  cases near with
  | true =>
    rw [br_t rfl, bd_grd (by simp; omega)]
    simp only [take_drop0, mk_eta, sp_eta]
    rw [bd_grd (and_t hco hb)]
    simp only
    rw [bd_grd (and_t (hp _) (bufS_putK _ hb)), bd_grd (and_t hco hb), bd_grd (and_t hco hb), bd_grd (and_t hco hb)]
    simp only
    rw [bd_grd (decide_eq_true (hp2 _))]
    simp only [getK_put _ hb]
    rw [br_t (sameS_self _), br_t rfl, br_t (by simp), br_t (by simp), br_t (by simp), bd_grd (and_t hco (and_t hb (spanS_ok k))), bd_grd (and_t hco (and_t hb (spanS_ok k)))]
    simp only
    rw [bd_grd (decide_eq_true (hr2 _)), br_t (sameS_self _), bd_grd (by rw [staysS_lent]; simp; omega)]
    rfl
  | false =>
    rw [br_f rfl, bd_grd (by simp; omega)]
    simp only [take_drop0, mk_eta, sp_eta]
    rw [bd_grd (and_t hco hb)]
    simp only
    rw [bd_grd (and_t (hp _) (bufS_putK _ hb)), bd_grd (and_t hco hb), bd_grd (and_t hco hb), bd_grd (and_t hco hb)]
    simp only
    rw [bd_grd (decide_eq_true (hp2 _))]
    simp only [getK_put _ hb]
    rw [br_t (sameS_self _), br_t rfl, br_t (by simp), br_t (by simp), br_t (by simp), bd_grd (and_t hco (and_t hb (spanS_ok k))), bd_grd (and_t hco (and_t hb (spanS_ok k)))]
    simp only
    rw [bd_grd (decide_eq_true (hr2 _)), br_t (sameS_self _), bd_grd (by rw [staysS_lent]; simp; omega)]
    rfl
/-! what is left of a span -/
theorem hasS_cons (x : Spn) (l : List Spn) (k : Key) : hasS (x :: l) k = true ↔ (x.1 = k.1 ∧ x.2.1 ≤ k.2 ∧ k.2 < x.2.2) ∨ hasS l k = true := by
  simp only [hasS, List.any_cons, Bool.or_eq_true, Bool.and_eq_true, decide_eq_true_eq]
theorem hasS_app (a b : List Spn) (k : Key) : hasS (a ++ b) k = true ↔ hasS a k = true ∨ hasS b k = true := by
  simp only [hasS, List.any_append, Bool.or_eq_true]
theorem hasS_one (x : Spn) (k : Key) : hasS [x] k = true ↔ x.1 = k.1 ∧ x.2.1 ≤ k.2 ∧ k.2 < x.2.2 := by
  rw [hasS_cons]; simp [hasS]
theorem hasS_tail (t f to : Int) (k : Key) : hasS (tailS t f to) k = true ↔ t = k.1 ∧ f ≤ k.2 ∧ k.2 < to := by
  unfold tailS
  split
  · rw [hasS_one]
  · simp only [hasS, List.any_nil]
    constructor
    · intro h; cases h
    · omega
theorem sizeS_app (a b : List Spn) : sizeS (a ++ b) = sizeS a + sizeS b := by simp [sizeS]
theorem sizeS_tail (t f to : Int) (h : f ≤ to) : sizeS (tailS t f to) = to - f := by
  unfold tailS
  split
  · simp [sizeS]
  · simp [sizeS]; omega
theorem mem_tail {t f to : Int} {x : Spn} (h : x ∈ tailS t f to) : x.1 = t ∧ x.2.1 = f ∧ x.2.2 = to ∧ f < to := by
  unfold tailS at h
  split at h
  · rename_i hf; rw [List.mem_singleton.1 h]; exact ⟨rfl, rfl, rfl, hf⟩
  · simp at h
theorem rest_all {t to : Int} (ht : 0 ≤ t ∧ t < 4) (hto : to ≤ 65536) : ∀ (m : List Cel) (f : Int), bufS m = true → (∀ c ∈ m, keyLt c.1 (t, f) = false) → 0 ≤ f → f ≤ to →
    (∀ x ∈ restGo t to m f, x.1 = t ∧ f ≤ x.2.1 ∧ x.2.1 < x.2.2 ∧ x.2.2 ≤ to) ∧ canonS (restGo t to m f) = true ∧ (∀ k, hasS (restGo t to m f) k = true ↔ t = k.1 ∧ f ≤ k.2 ∧ k.2 < to ∧ ∀ c ∈ m, c.1 ≠ k) ∧
    sizeS (restGo t to m f) = to - f - ((m.countP fun c => decide (t = c.1.1) && decide (c.1.2 < to) : Nat) : Int) := by
  have htail : ∀ f, 0 ≤ f → f ≤ to → (∀ x ∈ tailS t f to, x.1 = t ∧ f ≤ x.2.1 ∧ x.2.1 < x.2.2 ∧ x.2.2 ≤ to) ∧ canonS (tailS t f to) = true := by
    intro f h0 h1
    refine ⟨fun x hx => ?_, ?_⟩
    · have := mem_tail hx; omega
    · unfold tailS
      split
      · exact spanR_iff.2 ⟨ht.1, ht.2, h0, hto, by assumption⟩
      · rfl
  intro m
  induction m with
  | nil =>
    intro f _ _ h0 h1
    rw [restGo_nil]
    refine ⟨(htail f h0 h1).1, (htail f h0 h1).2, fun k => ?_, ?_⟩
    · rw [hasS_tail]; simp
    · rw [sizeS_tail _ _ _ h1]; simp
  | cons c m ih =>
    intro f hb hge h0 h1
    have hb' := bufS_cons.1 hb
    have hc := hge c List.mem_cons_self
    rw [keyLt_false] at hc
    simp only at hc
    by_cases hin : c.1.1 = t ∧ c.1.2 < to
    · rw [restGo_in hin]
      obtain ⟨i1, i2, i3, i4⟩ := ih (c.1.2 + 1) hb'.2 (fun x hx => by
        have := hb'.1 x hx
        rw [keyLt_iff] at this
        rw [keyLt_false]; simp only; omega) (by omega) (by omega)
      refine ⟨fun x hx => ?_, ?_, fun k => ?_, ?_⟩
      · rcases List.mem_append.1 hx with hx | hx
        · have := mem_tail hx; omega
        · have := i1 x hx; omega
      · unfold tailS
        split
        · rename_i hf
          show canonS ((t, f, c.1.2) :: restGo t to m (c.1.2 + 1)) = true
          rw [canonS_cons]
          have e : spanR (t, f, c.1.2) = true := spanR_iff.2 ⟨ht.1, ht.2, h0, by simp only; omega, hf⟩
          rw [e, Bool.true_and]
          cases hr : restGo t to m (c.1.2 + 1) with
          | nil => rfl
          | cons y l =>
            rw [hr] at i1 i2
            have := i1 y List.mem_cons_self
            simp only [canonA, Bool.and_eq_true]
            refine ⟨?_, i2⟩
            simp only [aheadS, Bool.or_eq_true, Bool.and_eq_true, decide_eq_true_eq]
            omega
        · exact i2
      · rw [hasS_app, hasS_tail, i3]
        constructor
        · rintro (h | h)
          · refine ⟨h.1, h.2.1, by omega, fun x hx e => ?_⟩
            subst e
            rcases List.mem_cons.1 hx with rfl | hx
            · omega
            · have := hb'.1 x hx
              rw [keyLt_iff] at this
              omega
          · refine ⟨h.1, by omega, h.2.2.1, fun x hx e => ?_⟩
            rcases List.mem_cons.1 hx with rfl | hx
            · subst e; omega
            · exact h.2.2.2 x hx e
        · rintro ⟨k1, k2, k3, k4⟩
          have hne : c.1.2 ≠ k.2 := fun e => k4 c List.mem_cons_self (key_eq (by omega) e)
          by_cases hlt : k.2 < c.1.2
          · exact .inl ⟨k1, k2, hlt⟩
          · exact .inr ⟨k1, by omega, k3, fun x hx => k4 x (List.mem_cons_of_mem _ hx)⟩
      · rw [sizeS_app, sizeS_tail _ _ _ (by omega), i4, List.countP_cons_of_pos (by simp [hin.1, hin.2])]
        push_cast; omega
    · rw [restGo_out hin]
      have hno : ∀ x ∈ m, ¬ (t = x.1.1 ∧ x.1.2 < to) := by
        intro x hx
        have := hb'.1 x hx
        rw [keyLt_iff] at this
        omega
      refine ⟨(htail f h0 h1).1, (htail f h0 h1).2, fun k => ?_, ?_⟩
      · rw [hasS_tail]
        refine ⟨fun h => ⟨h.1, h.2.1, h.2.2, fun x hx e => ?_⟩, fun h => ⟨h.1, h.2.1, h.2.2.1⟩⟩
        subst e
        rcases List.mem_cons.1 hx with rfl | hx
        · omega
        · exact hno x hx ⟨h.1, h.2.2⟩
      · rw [sizeS_tail _ _ _ h1]
        have : (c :: m).countP (fun c => decide (t = c.1.1) && decide (c.1.2 < to)) = 0 := by
          rw [List.countP_eq_zero]
          intro x hx
          simp only [Bool.and_eq_true, decide_eq_true_eq]
          rcases List.mem_cons.1 hx with rfl | hx
          · omega
          · exact hno x hx
        rw [this]; simp
theorem getR_mem : ∀ {l : List Cel} {c : Cel}, bufS l = true → c ∈ l → getR l c.1 = some c.2
  | a :: l, c, hb, h => by
    have hb' := bufS_cons.1 hb
    simp only [getR]
    rcases List.mem_cons.1 h with rfl | h
    · rw [keyLt_irrefl]; simp
    · rw [hb'.1 c h, if_pos rfl]
      exact getR_mem hb'.2 h
theorem getR_none : ∀ {l : List Cel} {k : Key}, (∀ c ∈ l, c.1 ≠ k) → getR l k = none
  | [], _, _ => rfl
  | a :: l, k, h => by
    have ih := getR_none (l := l) (k := k) fun c hc => h c (List.mem_cons_of_mem _ hc)
    simp only [getR]
    rw [ih, if_neg (h a List.mem_cons_self)]
    split <;> rfl
theorem own_iff {l : List Cel} (hb : bufS l = true) (k : Key) : (getK l k).2 = true ↔ ∃ c ∈ l, c.1 = k := by
  rw [getK_eq]
  constructor
  · intro h
    apply Classical.byContradiction
    intro hn
    rw [getR_none fun c hc e => hn ⟨c, hc, e⟩] at h
    cases h
  · rintro ⟨c, hc, rfl⟩
    rw [getR_mem hb hc]
theorem restS_all (l : List Cel) (hb : bufS l = true) (s : Spn) (hs : spanR s = true) :
    (∀ x ∈ restS l s, x.1 = s.1 ∧ s.2.1 ≤ x.2.1 ∧ x.2.1 < x.2.2 ∧ x.2.2 ≤ s.2.2) ∧ canonS (restS l s) = true ∧ (∀ k, hasS (restS l s) k = (hasS [s] k && !(getK l k).2)) ∧
    sizeS (restS l s) = s.2.2 - s.2.1 - ((l.countP fun c => hasS [s] c.1 : Nat) : Int) := by
  have hs' := spanR_iff.1 hs
  have hc := cntK_le l (s.1, s.2.1)
  have hge : ∀ c ∈ l.drop (cntK l (s.1, s.2.1)), keyLt c.1 (s.1, s.2.1) = false := by
    intro c hc
    obtain ⟨j, hj⟩ := List.mem_iff_getElem?.1 hc
    rw [List.getElem?_drop] at hj
    have hjl := (List.getElem?_eq_some_iff.1 hj).1
    have := cntK_ge hb (s.1, s.2.1) _ ((0, 0), 0) hjl (by omega)
    rwa [List.getD_eq_getElem?_getD, hj] at this
  have hlt : ∀ c ∈ l.take (cntK l (s.1, s.2.1)), keyLt c.1 (s.1, s.2.1) = true := by
    intro c hc
    obtain ⟨j, hj⟩ := List.mem_iff_getElem?.1 hc
    rw [List.getElem?_take] at hj
    split at hj
    · rename_i hjc
      have := cntK_lt l (s.1, s.2.1) j ((0, 0), 0) hjc
      rwa [List.getD_eq_getElem?_getD, hj] at this
    · cases hj
  obtain ⟨i1, i2, i3, i4⟩ := rest_all (t := s.1) (to := s.2.2) ⟨hs'.1, hs'.2.1⟩ hs'.2.2.2.1 (l.drop (cntK l (s.1, s.2.1))) s.2.1 (bufS_drop _ hb) hge hs'.2.2.1 (by omega)
  refine ⟨i1, i2, fun k => ?_, ?_⟩
  · rw [← Bool.coe_iff_coe, Bool.and_eq_true, hasS_one, Bool.not_eq_true', ← Bool.not_eq_true, own_iff hb]
    refine (i3 k).trans ⟨fun h => ⟨⟨h.1, h.2.1, h.2.2.1⟩, ?_⟩, fun h => ⟨h.1.1, h.1.2.1, h.1.2.2, fun c hc e => h.2 ⟨c, List.mem_of_mem_drop hc, e⟩⟩⟩
    rintro ⟨c, hc, rfl⟩
    rw [← List.take_append_drop (cntK l (s.1, s.2.1)) l] at hc
    rcases List.mem_append.1 hc with hc | hc
    · have := hlt c hc
      rw [keyLt_iff] at this
      simp only at this
      omega
    · exact h.2.2.2 c hc rfl
  · have hcnt : (l.countP fun c => hasS [s] c.1) = (l.drop (cntK l (s.1, s.2.1))).countP fun c => decide (s.1 = c.1.1) && decide (c.1.2 < s.2.2) := by
      rw [show (l.countP fun c => hasS [s] c.1) = (l.take (cntK l (s.1, s.2.1)) ++ l.drop (cntK l (s.1, s.2.1))).countP fun c => hasS [s] c.1 by rw [List.take_append_drop], List.countP_append]
      have e1 : (l.take (cntK l (s.1, s.2.1))).countP (fun c => hasS [s] c.1) = 0 := by
        rw [List.countP_eq_zero]
        intro c hc
        rw [hasS_one]
        have := hlt c hc
        rw [keyLt_iff] at this
        simp only at this
        omega
      rw [e1, Nat.zero_add]
      refine List.countP_congr fun c hc => ?_
      have := hge c hc
      rw [keyLt_false] at this
      simp only at this
      rw [hasS_one]
      simp only [Bool.and_eq_true, decide_eq_true_eq]
      omega
    rw [hcnt]
    exact i4
theorem lv_BuffRests : Valid Try.prog n_lBuffRests ⟨valsOf [.slice tI, tI, tI], [.val .bool], Fok (tys := [.slice tI, tI, tI]) (fun _ => true) ((), (), (), ())⟩ := by
  refine valid_law mixed hf_lBuffRests (by kernel_rfl) rfl (ts := tmpsOf f_lBuffRests.results.toList) (by kernel_rfl) (cfg := cfgW g_lBuffRests) tt_ok
    (Γok_cons v_awake18 (Γok_cons v_cells (Γok_cons v_span (Γok_cons v_key (Γok_cons v_rest (Γok_cons v_bget (Γok_cons v_rhas (Γok_cons v_rcanon (Γok_cons v_rsize Γok_nil))))))))) lBuffRests_tm (by kernel_rfl) ?_
  rintro ⟨(ks : List Int), (k : Int), (at' : Int), ⟨⟩⟩ _
  refine ⟨22, (lBuffRests_rn _ _ _ _).trans ?_⟩
  unfold lBuffRests_P
  have hcl := cellsS_len ks
  have hb := cellsS_buf ks
  have hco : lenOk (cellsS ks) = true := lenOk_of' (by omega)
  have hs := spanS_ok k
  have hs' := spanR_iff.1 hs
  have hrl := restS_len (cellsS ks) (spanS k)
  obtain ⟨r1, r2, r3, r4⟩ := restS_all (cellsS ks) hb (spanS k) hs
  have hro : lenOk (restS (cellsS ks) (spanS k)) = true := lenOk_of' (by omega)
  have hso : spnOk (restS (cellsS ks) (spanS k)) = true := by
    refine List.all_eq_true.2 fun x hx => ?_
    have := r1 x hx
    simp only [Bool.and_eq_true, decide_eq_true_eq]
    omega
  have hcp := List.countP_le_length (p := fun c : Cel => hasS [spanS k] c.1) (l := cellsS ks)
  rw [brNT]
  simp only [sp_eta, mk_eta]
  rw [bd_grd (and_t hco (and_t hb hs)), bd_grd (and_t hco hb)]
  simp only
  refine loopN_for (step := lBuffRests_L1) (cellsS ks).length (fun i => (cellsS ks, ((spanS k).1, (spanS k).2.1, (spanS k).2.2, ()), ((keyS at').1, (keyS at').2, ()), restS (cellsS ks) (spanS k), (getK (cellsS ks) (keyS at')).2, ((((cellsS ks).take i).countP fun c => hasS [spanS k] c.1 : Nat) : Int), (i : Int), ())) (fun i hi rec => ?_) (fun rec => ?_) 22 (by omega)
  · simp only [lBuffRests_L1, Int.toNat_natCast, sp_eta, mk_eta]
    have hci := List.countP_le_length (p := fun c : Cel => hasS [spanS k] c.1) (l := (cellsS ks).take i)
    rw [List.length_take] at hci
    rw [br_dt (by omega), br_dt (by omega), br_dt (by omega), bd_grd (by rfl), wrapI (n := (i : Int) + 1) (by omega) (by omega), take_snoc (cellsS ks) i ((0, 0), 0) hi, List.countP_append]
    simp only
    cases hh : hasS [spanS k] ((cellsS ks).getD i ((0, 0), 0)).1 with
    | true =>
      rw [br_t rfl, wrapI (by omega) (by omega), List.countP_cons_of_pos (by exact hh)]
      rfl
    | false =>
      rw [br_f rfl, List.countP_cons_of_neg (by rw [hh]; decide)]
      rfl
  · simp only [lBuffRests_L1, sp_eta, mk_eta]
    rw [br_df (by omega), bd_grd hro]
    simp only [r2]
    rw [br_t rfl, bd_grd hro]
    simp only
    rw [bd_grd (by rfl), List.take_length, r3]
    have e1 : IntKind.i64.wrap ((spanS k).2.2 - (spanS k).2.1) = (spanS k).2.2 - (spanS k).2.1 := wrapI (by omega) (by omega)
    have e2 : IntKind.i64.wrap ((spanS k).2.2 - (spanS k).2.1 - (((cellsS ks).countP fun c => hasS [spanS k] c.1 : Nat) : Int)) = (spanS k).2.2 - (spanS k).2.1 - (((cellsS ks).countP fun c => hasS [spanS k] c.1 : Nat) : Int) := wrapI (by omega) (by omega)
    rw [e1, e2, ← r4]
    cases hasS [spanS k] (keyS at') with
    | true =>
      rw [br_t rfl, br_t (by simp), bd_grd (and_t hro hso)]
      simp
      rfl
    | false =>
      rw [br_f rfl, br_t (by simp), bd_grd (and_t hro hso)]
      simp
      rfl
/-! in whatever order -/
/-- what the second buffer is after i turns -/
def turnB (a : List Cel) (t : Int) : Nat → List Cel
  | 0 => []
  | i + 1 => let c := a.getD ((t + i) % (a.length : Int)).toNat ((0, 0), 0); putR (putR (turnB a t i) (c.1, IntKind.u16.wrap (c.2 + 1))) c
theorem turnB_buf (a : List Cel) (t : Int) : ∀ i, bufS (turnB a t i) = true
  | 0 => rfl
  | i + 1 => bufS_put _ (bufS_put _ (turnB_buf a t i))
theorem turnB_len (a : List Cel) (t : Int) : ∀ i, (turnB a t i).length ≤ 2 * i
  | 0 => by simp [turnB]
  | i + 1 => by
    have h1 := turnB_len a t i
    simp only [turnB]
    have h2 := putR_len (turnB a t i) ((a.getD ((t + i) % (a.length : Int)).toNat ((0, 0), 0)).1, IntKind.u16.wrap ((a.getD ((t + i) % (a.length : Int)).toNat ((0, 0), 0)).2 + 1))
    have h3 := putR_len (putR (turnB a t i) ((a.getD ((t + i) % (a.length : Int)).toNat ((0, 0), 0)).1, IntKind.u16.wrap ((a.getD ((t + i) % (a.length : Int)).toNat ((0, 0), 0)).2 + 1))) (a.getD ((t + i) % (a.length : Int)).toNat ((0, 0), 0))
    omega
theorem turnB_get (a : List Cel) (hb : bufS a = true) (h0 : 0 < a.length) (t : Int) (q : Key) : ∀ i, getR (turnB a t i) q = if ∃ j, j < i ∧ (a.getD ((t + j) % (a.length : Int)).toNat ((0, 0), 0)).1 = q then getR a q else none
  | 0 => by simp [turnB, getR]
  | i + 1 => by
    have ih := turnB_get a hb h0 t q i
    simp only [turnB]
    have h1 := Int.emod_nonneg (t + i) (show (a.length : Int) ≠ 0 by omega)
    have h2 := Int.emod_lt_of_pos (t + i) (show (0 : Int) < a.length by omega)
    have hm : a.getD ((t + i) % (a.length : Int)).toNat ((0, 0), 0) ∈ a := by
      rw [List.getD_eq_getElem?_getD, List.getElem?_eq_getElem (by omega)]
      exact List.getElem_mem _
    have hg := getR_mem hb hm
    rw [getR_put _ _ (bufS_put _ (turnB_buf a t i)), getR_put _ _ (turnB_buf a t i), ih]
    by_cases e : q = (a.getD ((t + i) % (a.length : Int)).toNat ((0, 0), 0)).1
    · rw [if_pos e, if_pos ⟨i, by omega, e.symm⟩, e, hg]
    · rw [if_neg e, if_neg (by exact e)]
      have : (∃ j, j < i ∧ (a.getD ((t + j) % (a.length : Int)).toNat ((0, 0), 0)).1 = q) ↔ ∃ j, j < i + 1 ∧ (a.getD ((t + j) % (a.length : Int)).toNat ((0, 0), 0)).1 = q := by
        constructor
        · rintro ⟨j, hj, h⟩; exact ⟨j, by omega, h⟩
        · rintro ⟨j, hj, h⟩
          by_cases ej : j = i
          · subst ej; exact absurd h.symm e
          · exact ⟨j, by omega, h⟩
      simp only [this]
theorem turnB_all (a : List Cel) (hb : bufS a = true) (t : Int) : turnB a t a.length = a := by
  by_cases h0 : a.length = 0
  · rw [List.eq_nil_of_length_eq_zero h0]; rfl
  · refine buf_ext (turnB_buf a t _) hb fun q => ?_
    rw [turnB_get a hb (by omega) t q]
    split
    · rfl
    · rename_i hn
      refine (getR_none fun c hc e => hn ?_).symm
      obtain ⟨p, hp⟩ := List.mem_iff_getElem?.1 hc
      have hpl := (List.getElem?_eq_some_iff.1 hp).1
      have h1 := Int.emod_nonneg ((p : Int) - t) (show (a.length : Int) ≠ 0 by omega)
      have h2 := Int.emod_lt_of_pos ((p : Int) - t) (show (0 : Int) < a.length by omega)
      refine ⟨(((p : Int) - t) % (a.length : Int)).toNat, by omega, ?_⟩
      have e1 : (((((p : Int) - t) % (a.length : Int)).toNat : Nat) : Int) = ((p : Int) - t) % (a.length : Int) := by omega
      have e2 : (t + ((p : Int) - t) % (a.length : Int)) % (a.length : Int) = p := by
        rw [Int.add_emod, Int.emod_emod, ← Int.add_emod, show t + ((p : Int) - t) = p by omega]
        exact Int.emod_eq_of_lt (by omega) (by omega)
      rw [e1, e2, Int.toNat_natCast, List.getD_eq_getElem?_getD, hp]
      exact e
theorem cellsR_buf (ks : List Int) : bufS (cellsR ks) = true := foldl_buf ks [] rfl
theorem cellsR_len (ks : List Int) : (cellsR ks).length ≤ ks.length := by
  have := foldl_len ks []
  unfold cellsR
  simpa using this
theorem cellsR_snoc (ks : List Int) (k : Int) : cellsR (ks ++ [k]) = putR (cellsR ks) (cellS k) := by simp [cellsR]
theorem lv_BuffOrders : Valid Try.prog n_lBuffOrders ⟨valsOf [.slice tI, tI], [.val .bool], Fok (tys := [.slice tI, tI]) (fun _ => true) ((), (), ())⟩ := by
  refine valid_law mixed hf_lBuffOrders (by kernel_rfl) rfl (ts := tmpsOf f_lBuffOrders.results.toList) (by kernel_rfl) (cfg := cfgW g_lBuffOrders) tt_ok
    (Γok_cons v_awake18 (Γok_cons v_cell (Γok_cons v_put (Γok_cons v_within (Γok_cons v_bget (Γok_cons v_sameCells (Γok_cons v_bright Γok_nil))))))) lBuffOrders_tm (by kernel_rfl) ?_
  rintro ⟨(ks : List Int), (t : Int), ⟨⟩⟩ _
  refine ⟨14, (lBuffOrders_rn _ _ _).trans ?_⟩
  unfold lBuffOrders_P
  by_cases hl : (ks.length : Int) > 12
  · rw [br_dt hl]; rfl
  rw [br_df hl, brNT]
  refine loopN_for (step := lBuffOrders_L2 14) ks.length (fun i => (ks, t, cellsR (ks.take i), (), (i : Int), ())) (fun i hi rec => ?_) (fun rec => ?_) 14 (by omega)
  · simp only [lBuffOrders_L2, Int.toNat_natCast, mk_eta]
    have hn := cellsR_len (ks.take i)
    rw [List.length_take] at hn
    rw [br_dt (by omega), br_dt (by omega), br_dt (by omega), bd_grd (and_t (lenOk_of' (by omega)) (cellsR_buf _)), wrapI (by omega) (by omega), take_snoc ks i 0 hi, cellsR_snoc]
    simp only [putK_eq]
    rfl
  · simp only [lBuffOrders_L2]
    rw [br_df (by omega), List.take_length]
    have hn := cellsR_len ks
    have hb := cellsR_buf ks
    have hco : lenOk (cellsR ks) = true := lenOk_of' (by omega)
    have ht := Int.emod_nonneg t (show (12 : Int) ≠ 0 by decide)
    have ht2 := Int.emod_lt_of_pos t (show (0 : Int) < 12 by decide)
    refine loopN_for (step := lBuffOrders_L1) (cellsR ks).length (fun i => (ks, t, cellsR ks, turnB (cellsR ks) (t % 12) i, (i : Int), ())) (fun i hi rec => ?_) (fun rec => ?_) 14 (by omega)
    · simp only [lBuffOrders_L1, mk_eta]
      have h1 := Int.emod_nonneg (t % 12 + i) (show ((cellsR ks).length : Int) ≠ 0 by omega)
      have h2 := Int.emod_lt_of_pos (t % 12 + i) (show (0 : Int) < (cellsR ks).length by omega)
      have hbl := turnB_len (cellsR ks) (t % 12) i
      rw [br_dt (by omega), bd_grd (by rfl)]
      simp only
      rw [wrapI (n := t % 12 + (i : Int)) (by omega) (by omega), bd_grd (by simp; omega)]
      simp only
      have hp1 := putK_len (turnB (cellsR ks) (t % 12) i) (((cellsR ks).getD ((t % 12 + i) % ((cellsR ks).length : Int)).toNat ((0, 0), 0)).1, IntKind.u16.wrap (((cellsR ks).getD ((t % 12 + i) % ((cellsR ks).length : Int)).toNat ((0, 0), 0)).2 + 1))
      rw [br_dt (by omega), br_dt (by omega), bd_grd (and_t (lenOk_of' (by omega)) (turnB_buf _ _ _))]
      simp only
      rw [bd_grd (and_t (lenOk_of' (by omega)) (bufS_putK _ (turnB_buf _ _ _))), wrapI (n := (i : Int) + 1) (by omega) (by omega)]
      simp only [putK_eq]
      rfl
    · simp only [lBuffOrders_L1, mk_eta]
      rw [br_df (by omega), turnB_all _ hb]
      by_cases h0 : ks.length = 0
      · rw [br_f (by rw [h0]; rfl), bd_grd (decide_eq_true (by omega)), br_t (sameS_self _), bd_grd hco]
        simp only [hb]
        rw [br_t rfl, h0]
        rfl
      · have e1 : IntKind.i64.wrap ((ks.length : Int) - 1) = ((ks.length - 1 : Nat) : Int) := (wrapI (by omega) (by omega)).trans (by omega)
        rw [br_t (by rw [beq_eq_false_iff_ne.2 (by omega)]; rfl)]
        simp only [e1, Int.toNat_natCast]
        have hlast : getK (cellsR ks) (cellS (ks.getD (ks.length - 1) 0)).1 = ((cellS (ks.getD (ks.length - 1) 0)).2, true) := by
          have e : ks = ks.take (ks.length - 1) ++ [ks.getD (ks.length - 1) 0] := by
            rw [← take_snoc ks (ks.length - 1) 0 (by omega), show ks.length - 1 + 1 = ks.length by omega, List.take_length]
          have e2 := congrArg cellsR e
          rw [cellsR_snoc] at e2
          rw [e2, ← putK_eq]
          exact getK_put _ (cellsR_buf _)
        rw [br_dt (by omega), br_dt (by omega), bd_grd (and_t hco hb)]
        simp only [hlast]
        rw [br_t rfl, bd_grd (decide_eq_true (by omega)), br_t (sameS_self _), bd_grd hco]
        simp only [hb]
        rw [br_t rfl]
        simp
        rfl
end Go.BB
