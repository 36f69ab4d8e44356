/- A symbolic machine for the model's code, and what it shows of this seat's functions. No conditions. -/
import Derived.Test.YteaomngbkklfoaaRGview
import Derived.Test.YteaomngbkklfoaaRVspan
import Derived.Test.YteaomngbkklfoaaRVstore
import Derived.Test.YteaomngbkklfoaaRVref
import Derived.Test.YteaomngbkklfoaaRLView
set_option linter.unusedSimpArgs false
set_option linter.unusedVariables false
namespace Go.BB
open Go Go.Proofs
set_option maxRecDepth 100000
structure ViewOk (v : Vw) : Prop where
  canon : canonS v.2.1 = true
  buf : bufS v.2.2 = true
  n1 : v.2.1.length ≤ 100000
  n2 : v.2.2.length ≤ 100000
theorem viewOk_iff (v : Vw) : viewOk v = true ↔ ViewOk v := by
  unfold viewOk
  simp only [Bool.and_eq_true, decide_eq_true_eq]
  exact ⟨fun ⟨h1, h2, h3, h4⟩ => ⟨h1, h2, h3, h4⟩, fun ⟨h1, h2, h3, h4⟩ => ⟨h1, h2, h3, h4⟩⟩
theorem rest_right {l : List Cel} (hb : bufS l = true) {s : Spn} (hs : spanR s = true) : ∀ x ∈ restS l s, spanR x = true := canonS_right (restS_all l hb s hs).2.1
theorem mem_getD {α : Type} {l : List α} {i : Nat} {z : α} (h : i < l.length) : l.getD i z ∈ l := by
  rw [List.getD_eq_getElem?_getD, List.getElem?_eq_getElem h]; exact List.getElem_mem h
theorem addAll_snoc (l r : List Spn) (x : Spn) : addAll l (r ++ [x]) = addGo (addAll l r) x := by simp [addAll]
/-- a view's spans behind some of what is left -/
theorem readsS_part {v : Vw} (hv : ViewOk v) {s : Spn} (hs : spanR s = true) (i : Nat) : canonS (addAll v.2.1 ((restS v.2.2 s).take i)) = true ∧ (addAll v.2.1 ((restS v.2.2 s).take i)).length < 300000 := by
  refine ⟨addAll_canon hv.canon fun x hx => rest_right hv.buf hs x (List.mem_of_mem_take hx), ?_⟩
  have h1 := addAll_len ((restS v.2.2 s).take i) v.2.1
  have h2 := restS_len v.2.2 s
  have h3 := hv.n1
  have h4 := hv.n2
  rw [List.length_take] at h1
  omega
theorem v_viewOwn : Valid Try.prog n_viewOwn c_viewOwn := by
  refine valid_fnc mixed hf_viewOwn (by kernel_rfl) rfl (cfg := cfgW g_viewOwn) tt_ok (Γok_cons v_cloneSpans (Γok_cons v_cloneCells Γok_nil)) viewOwn_tm c_viewOwn (by kernel_rfl) (fun _ _ _ _ => ⟨⟩) ?_
  rintro ⟨(v : Vw), ⟨⟩⟩ r u h
  obtain ⟨h1, h2⟩ := grd_some h
  simp only [Bool.and_eq_true] at h1 h2
  refine ⟨0, (viewOwn_rn _ _).trans (Eq.trans ?_ (congrArg some h2))⟩
  unfold viewOwn_P
  rw [bd_grd (decide_eq_true (lenOk_lt h1.1)), bd_grd (decide_eq_true (lenOk_lt h1.2))]
  rfl
theorem v_look : Valid Try.prog n_look c_look := by
  refine valid_fnc mixed hf_look (by kernel_rfl) rfl (cfg := cfgW g_look) tt_ok (Γok_cons v_bget (Γok_cons v_stRead Γok_nil)) look_tm c_look (by kernel_rfl) (fun _ _ _ _ => ⟨⟩) ?_
  rintro ⟨(s : Sto), (v : Vw), (sp : Spn), ⟨⟩⟩ r u h
  obtain ⟨h1, h2⟩ := grd_some h
  simp only [Bool.and_eq_true] at h1 h2
  have hv := (viewOk_iff _).1 h1.2.1
  have hs := spanR_iff.1 h1.2.2
  have hv4 := hv.n2
  refine ⟨(sp.2.2 - sp.2.1).toNat + 1, (look_rn _ _ _ _).trans (Eq.trans ?_ (congrArg some h2))⟩
  unfold look_P
  have := loopN_for (step := look_L1) (res := some ((lookP s.2.2.2.1 v sp, ()), s, (), (), ())) (sp.2.2 - sp.2.1).toNat (fun i => (s, (v.1, v.2.1, v.2.2, ()), (sp.1, sp.2.1, sp.2.2, ()), lookN (fun k => atV (chnOf s.2.2.2.1 k) v.1) v.2.2 sp.1 sp.2.1 i, sp.2.1 + (i : Int), ())) (fun i hi rec => ?_) (fun rec => ?_) ((sp.2.2 - sp.2.1).toNat + 1) (by omega)
  · have e0 : sp.2.1 + ((0 : Nat) : Int) = sp.2.1 := by simp
    simp only [lookN, e0] at this
    exact this
  · have hlen := lookN_len (fun k => atV (chnOf s.2.2.2.1 k) v.1) v.2.2 sp.1 i sp.2.1
    simp only [look_L1]
    rw [br_dt (by omega), bd_grd (by rw [Bool.and_eq_true]; exact ⟨decide_eq_true (by omega), hv.buf⟩), wrapI (n := sp.2.1 + (i : Int) + 1) (by omega) (by omega), lookN_snoc, show sp.2.1 + ((i + 1 : Nat) : Int) = sp.2.1 + (i : Int) + 1 by push_cast; omega]
    simp only
    generalize getK v.2.2 (sp.1, sp.2.1 + (i : Int)) = g
    obtain ⟨g1, g2⟩ := g
    cases g2
    · refine (br_t rfl).trans ?_
      rw [bd_grd h1.1]
      simp only
      rw [br_dt (lim_mul (by simp [hlen]; omega) (by decide)), br_dt (lim_le (by simp [hlen]; omega))]
      rfl
    · refine (br_f rfl).trans ?_
      simp only
      rw [br_dt (lim_mul (by simp [hlen]; omega) (by decide)), br_dt (lim_le (by simp [hlen]; omega))]
      rfl
  · simp only [look_L1]
    rw [br_df (by omega)]
    rfl
theorem v_viewRead : Valid Try.prog n_viewRead c_viewRead := by
  refine valid_fnc mixed hf_viewRead (by kernel_rfl) rfl (cfg := cfgW g_viewRead) tt_ok (Γok_cons v_viewOwn (Γok_cons v_rest (Γok_cons v_spanAdd (Γok_cons v_look Γok_nil)))) viewRead_tm c_viewRead (by kernel_rfl) (fun _ _ _ _ => ⟨⟩) ?_
  rintro ⟨(s : Sto), (v : Vw), (sp : Spn), (most : Int), ⟨⟩⟩ r u h
  obtain ⟨h1, h2⟩ := grd_some h
  simp only [Bool.and_eq_true] at h1 h2
  have hv := (viewOk_iff _).1 h1.2.1
  have hv3 := hv.n1
  have hv4 := hv.n2
  have hrl := restS_len v.2.2 sp
  have hl1 : lenOk v.2.1 = true := decide_eq_true (by omega)
  have hl2 : lenOk v.2.2 = true := decide_eq_true (by omega)
  refine ⟨(restS v.2.2 sp).length + 1, (viewRead_rn _ _ _ _ _).trans (Eq.trans ?_ (congrArg some h2))⟩
  unfold viewRead_P
  rw [bd_grd (and_t hl1 hl2), bd_grd (and_t hl2 (and_t hv.buf h1.2.2))]
  refine loopN_for (step := viewRead_L1) (restS v.2.2 sp).length (fun i => (s, most, (v.1, v.2.1, v.2.2, ()), (sp.1, sp.2.1, sp.2.2, ()), ((0 : Int), (), (), ()), (v.1, addAll v.2.1 ((restS v.2.2 sp).take i), v.2.2, ()), restS v.2.2 sp, ((restS v.2.2 sp).length : Int), (i : Int), ())) (fun i hi rec => ?_) (fun rec => ?_) _ (by omega)
  · have hp := readsS_part hv h1.2.2 i
    simp only [viewRead_L1, Int.toNat_natCast, sp_eta]
    rw [br_dt (by omega), br_dt (by omega), br_dt (by omega), bd_grd (and_t (lenOk_of' (Nat.lt_of_lt_of_le hp.2 (by decide))) (and_t hp.1 (rest_right hv.buf h1.2.2 _ (mem_getD hi)))), wrapI (n := (i : Int) + 1) (by omega) (by omega), take_snoc _ i ((0, 0, 0) : Spn) hi, addAll_snoc]
    rfl
  · simp only [viewRead_L1, sp_eta]
    rw [List.take_length]
    have e : addAll v.2.1 (restS v.2.2 sp) = readsS v sp := rfl
    rw [e, br_df (by omega)]
    by_cases hm : ((readsS v sp).length : Int) > most
    · rw [br_dt hm, bd_grd (and_t hl1 hl2)]
      unfold viewRead
      rw [if_pos hm]
      rfl
    · rw [br_df hm, bd_grd (and_t h1.1 (and_t h1.2.1 h1.2.2))]
      unfold viewRead
      rw [if_neg hm]
      rfl
theorem putAll_len (l : List Cel) (b : List Cel) : (l.foldl putK b).length ≤ b.length + l.length := foldl_putK_len l b
theorem v_viewWrite : Valid Try.prog n_viewWrite c_viewWrite := by
  refine valid_fnc mixed hf_viewWrite (by kernel_rfl) rfl (cfg := cfgW g_viewWrite) tt_ok (Γok_cons v_viewOwn (Γok_cons v_put Γok_nil)) viewWrite_tm c_viewWrite (by kernel_rfl) (fun x r u h => ?_) ?_
  · obtain ⟨h1, h2⟩ := grd_some h
    subst_vars
    have : u = ((), x.2.1.1, (), ()) := (congrArg Prod.snd h2).symm
    subst this
    exact ⟨rfl, ⟨⟩⟩
  rintro ⟨(v : Vw), ⟨(l : List Cel), (n : Nat)⟩, (most : Int), ⟨⟩⟩ r u h
  obtain ⟨h1, h2⟩ := grd_some h
  simp only [Bool.and_eq_true, decide_eq_true_eq] at h1 h2
  have hv := (viewOk_iff _).1 h1.1
  have hv3 := hv.n1
  have hv4 := hv.n2
  have hl := h1.2.1
  have hn := h1.2.2
  have hl1 : lenOk v.2.1 = true := decide_eq_true (by omega)
  have hl2 : lenOk v.2.2 = true := decide_eq_true (by omega)
  refine ⟨n + 1, (viewWrite_rn _ _ _ _).trans (Eq.trans ?_ (congrArg some h2))⟩
  unfold viewWrite_P
  rw [bd_grd (and_t hl1 hl2)]
  refine loopN_for (step := viewWrite_L1) n (fun i => (most, (v.1, v.2.1, v.2.2, ()), ((0 : Int), (), (), ()), (v.1, v.2.1, (l.take i).foldl putK v.2.2, ()), (l, n), (n : Int), (i : Int), ())) (fun i hi rec => ?_) (fun rec => ?_) _ (by omega)
  · have hp1 := foldl_putK_buf (l.take i) v.2.2 hv.buf
    have hp2 := foldl_putK_len (l.take i) v.2.2
    rw [List.length_take] at hp2
    simp only [viewWrite_L1, Int.toNat_natCast, mk_eta]
    rw [br_dt (by omega), br_dt (by omega), br_dt (by omega), bd_grd (and_t (lenOk_of' (Nat.lt_of_le_of_lt hp2 (by omega))) hp1), wrapI (n := (i : Int) + 1) (by omega) (by omega), take_snoc l i (((0, 0), 0) : Cel) (by omega), List.foldl_append]
    rfl
  · simp only [viewWrite_L1, sp_eta]
    rw [br_df (by omega)]
    by_cases hm : (((l.take n).foldl putK v.2.2).length : Int) > most
    · rw [br_dt hm, bd_grd (and_t hl1 hl2)]
      unfold viewWrite writesS
      rw [if_pos hm]
      rfl
    · rw [br_df hm]
      unfold viewWrite writesS
      rw [if_neg hm]
      rfl
theorem v_rlook : Valid Try.prog n_rlook c_rlook := by
  refine valid_fnc mixed hf_rlook (by kernel_rfl) rfl (cfg := cfgW g_rlook) tt_ok (Γok_cons v_rbget (Γok_cons v_rstRead Γok_nil)) rlook_tm c_rlook (by kernel_rfl) (fun _ _ _ _ => ⟨⟩) ?_
  rintro ⟨(s : Ref), (v : Vw), (sp : Spn), ⟨⟩⟩ r u h
  obtain ⟨h1, h2⟩ := grd_some h
  simp only [Bool.and_eq_true] at h1 h2
  have hv := (viewOk_iff _).1 h1.2.1
  have hs := spanR_iff.1 h1.2.2
  have hv4 := hv.n2
  refine ⟨(sp.2.2 - sp.2.1).toNat + 1, (rlook_rn _ _ _ _).trans (Eq.trans ?_ (congrArg some h2))⟩
  unfold rlook_P
  have := loopN_for (step := rlook_L1) (res := some ((lookD s.2.2.1 v sp, ()), (), (), (), ())) (sp.2.2 - sp.2.1).toNat (fun i => (s, (v.1, v.2.1, v.2.2, ()), (sp.1, sp.2.1, sp.2.2, ()), lookN (fun k => atV (rowOf s.2.2.1 k) v.1) v.2.2 sp.1 sp.2.1 i, sp.2.1 + (i : Int), ())) (fun i hi rec => ?_) (fun rec => ?_) ((sp.2.2 - sp.2.1).toNat + 1) (by omega)
  · have e0 : sp.2.1 + ((0 : Nat) : Int) = sp.2.1 := by simp
    simp only [lookN, e0] at this
    exact this
  · have hlen := lookN_len (fun k => atV (rowOf s.2.2.1 k) v.1) v.2.2 sp.1 i sp.2.1
    simp only [rlook_L1]
    rw [br_dt (by omega), bd_grd (by rw [Bool.and_eq_true]; exact ⟨decide_eq_true (by omega), hv.buf⟩), wrapI (n := sp.2.1 + (i : Int) + 1) (by omega) (by omega), lookN_snoc, show sp.2.1 + ((i + 1 : Nat) : Int) = sp.2.1 + (i : Int) + 1 by push_cast; omega]
    simp only
    generalize getK v.2.2 (sp.1, sp.2.1 + (i : Int)) = g
    obtain ⟨g1, g2⟩ := g
    cases g2
    · refine (br_t rfl).trans ?_
      rw [bd_grd h1.1]
      simp only
      rw [br_dt (lim_mul (by simp [hlen]; omega) (by decide)), br_dt (lim_le (by simp [hlen]; omega))]
      rfl
    · refine (br_f rfl).trans ?_
      simp only
      rw [br_dt (lim_mul (by simp [hlen]; omega) (by decide)), br_dt (lim_le (by simp [hlen]; omega))]
      rfl
  · simp only [rlook_L1]
    rw [br_df (by omega)]
    rfl
theorem v_rviewRead : Valid Try.prog n_rviewRead c_rviewRead := by
  refine valid_fnc mixed hf_rviewRead (by kernel_rfl) rfl (cfg := cfgW g_rviewRead) tt_ok (Γok_cons v_rrest (Γok_cons v_rspanAdd (Γok_cons v_rlook Γok_nil))) rviewRead_tm c_rviewRead (by kernel_rfl) (fun _ _ _ _ => ⟨⟩) ?_
  rintro ⟨(s : Ref), (v : Vw), (sp : Spn), (most : Int), ⟨⟩⟩ r u h
  obtain ⟨h1, h2⟩ := grd_some h
  simp only [Bool.and_eq_true] at h1 h2
  have hv := (viewOk_iff _).1 h1.2.1
  have hv3 := hv.n1
  have hv4 := hv.n2
  have hrl := restS_len v.2.2 sp
  have hl2 : lenOk v.2.2 = true := decide_eq_true (by omega)
  refine ⟨(restS v.2.2 sp).length + 1, (rviewRead_rn _ _ _ _ _).trans (Eq.trans ?_ (congrArg some h2))⟩
  unfold rviewRead_P
  rw [bd_grd (and_t hl2 (and_t hv.buf h1.2.2))]
  refine loopN_for (step := rviewRead_L1) (restS v.2.2 sp).length (fun i => (s, most, (v.1, v.2.1, v.2.2, ()), (sp.1, sp.2.1, sp.2.2, ()), ((0 : Int), (), (), ()), addAll v.2.1 ((restS v.2.2 sp).take i), restS v.2.2 sp, (i : Int), ())) (fun i hi rec => ?_) (fun rec => ?_) _ (by omega)
  · have hp := readsS_part hv h1.2.2 i
    simp only [rviewRead_L1, Int.toNat_natCast, sp_eta]
    rw [br_dt (by omega), br_dt (by omega), br_dt (by omega), bd_grd (and_t (lenOk_of' (Nat.lt_of_lt_of_le hp.2 (by decide))) (and_t hp.1 (rest_right hv.buf h1.2.2 _ (mem_getD hi)))), wrapI (n := (i : Int) + 1) (by omega) (by omega), take_snoc _ i ((0, 0, 0) : Spn) hi, addAll_snoc]
    rfl
  · simp only [rviewRead_L1, sp_eta]
    rw [List.take_length]
    have e : addAll v.2.1 (restS v.2.2 sp) = readsS v sp := rfl
    rw [e, br_df (by omega)]
    by_cases hm : ((readsS v sp).length : Int) > most
    · rw [br_dt hm]
      unfold viewRead
      rw [if_pos hm]
      rfl
    · rw [br_df hm, bd_grd (and_t h1.1 (and_t h1.2.1 h1.2.2))]
      unfold viewRead
      rw [if_neg hm]
      rfl
theorem v_rviewWrite : Valid Try.prog n_rviewWrite c_rviewWrite := by
  refine valid_fnc mixed hf_rviewWrite (by kernel_rfl) rfl (cfg := cfgW g_rviewWrite) tt_ok (Γok_cons v_rput Γok_nil) rviewWrite_tm c_rviewWrite (by kernel_rfl) (fun _ _ _ _ => ⟨⟩) ?_
  rintro ⟨(v : Vw), (l : List Cel), (most : Int), ⟨⟩⟩ r u h
  obtain ⟨h1, h2⟩ := grd_some h
  simp only [Bool.and_eq_true, decide_eq_true_eq] at h1 h2
  have hv := (viewOk_iff _).1 h1.1
  have hv3 := hv.n1
  have hv4 := hv.n2
  have hl := h1.2
  refine ⟨l.length + 1, (rviewWrite_rn _ _ _ _).trans (Eq.trans ?_ (congrArg some h2))⟩
  unfold rviewWrite_P
  refine loopN_for (step := rviewWrite_L1) l.length (fun i => (l, most, (v.1, v.2.1, v.2.2, ()), ((0 : Int), (), (), ()), (l.take i).foldl putK v.2.2, (i : Int), ())) (fun i hi rec => ?_) (fun rec => ?_) _ (by omega)
  · have hp1 := foldl_putK_buf (l.take i) v.2.2 hv.buf
    have hp2 := foldl_putK_len (l.take i) v.2.2
    rw [List.length_take] at hp2
    simp only [rviewWrite_L1, Int.toNat_natCast, mk_eta]
    rw [br_dt (by omega), br_dt (by omega), br_dt (by omega), bd_grd (and_t (lenOk_of' (Nat.lt_of_le_of_lt hp2 (by omega))) hp1), wrapI (n := (i : Int) + 1) (by omega) (by omega), take_snoc l i (((0, 0), 0) : Cel) hi, List.foldl_append]
    rfl
  · simp only [rviewWrite_L1, sp_eta]
    rw [List.take_length, br_df (by omega)]
    by_cases hm : ((l.foldl putK v.2.2).length : Int) > most
    · rw [br_dt hm]
      unfold viewWrite writesS
      rw [if_pos hm]
      rfl
    · rw [br_df hm]
      unfold viewWrite writesS
      rw [if_neg hm]
      rfl
theorem v_sameView : Valid Try.prog n_sameView c_sameView := by
  refine valid_fnc mixed hf_sameView (by kernel_rfl) rfl (cfg := cfgW g_sameView) tt_ok (Γok_cons v_sameSpans (Γok_cons v_sameCells Γok_nil)) sameView_tm c_sameView (by kernel_rfl) (fun _ _ _ _ => ⟨⟩) ?_
  rintro ⟨(v : Vw), (w : Vw), ⟨⟩⟩ r u h
  obtain ⟨h1, h2⟩ := grd_some h
  simp only [Bool.and_eq_true] at h1 h2
  have hv := (viewOk_iff _).1 h1.1
  have hv3 := hv.n1
  have hv4 := hv.n2
  have key : sameVw v w = (decide (v.1 = w.1) && (decide (v.2.1 = w.2.1) && decide (v.2.2 = w.2.2))) := by
    unfold sameVw
    rw [← Bool.coe_iff_coe]
    simp only [Bool.and_eq_true, decide_eq_true_eq]
    exact ⟨fun h => by subst h; exact ⟨rfl, rfl, rfl⟩, fun h => Prod.ext h.1 (Prod.ext h.2.1 h.2.2)⟩
  refine ⟨0, (sameView_rn _ _ _).trans (Eq.trans ?_ (congrArg some h2))⟩
  show _ = some ((sameVw v w, ()), (), (), ())
  rw [key]
  unfold sameView_P
  by_cases e1 : v.1 = w.1
  · rw [br_t (beq_iff_eq.2 e1), bd_grd (decide_eq_true (Nat.lt_of_le_of_lt hv3 (by decide))), decide_eq_true e1, Bool.true_and]
    simp only
    by_cases e2 : v.2.1 = w.2.1
    · have : sameS v.2.1 w.2.1 = true := decide_eq_true e2
      rw [br_t this, bd_grd (decide_eq_true (Nat.lt_of_le_of_lt hv4 (by decide))), decide_eq_true e2, Bool.true_and]
      rfl
    · have : sameS v.2.1 w.2.1 = false := decide_eq_false e2
      rw [br_f this, decide_eq_false e2, Bool.false_and]
  · rw [br_f (beq_eq_false_iff_ne.2 e1), decide_eq_false e1, Bool.false_and]
theorem v_short : Valid Try.prog n_short c_short := by
  refine valid_fnc mixed hf_short (by kernel_rfl) rfl (cfg := cfgW g_short) tt_ok (Γok_cons v_span Γok_nil) short_tm c_short (by kernel_rfl) (fun _ _ _ _ => ⟨⟩) ?_
  rintro ⟨(k : Int), ⟨⟩⟩ r u h
  have hs := spanR_iff.1 (spanS_ok k)
  refine ⟨0, (short_rn _ _).trans (Eq.trans ?_ h)⟩
  unfold short_P
  rw [wrapI (n := (spanS k).2.1 + 60) (by omega) (by omega), minI_eq]
  rfl
theorem clash_in {s : Sto} (hs : stoOk s = true) {sp : Spn} (hsp : spanR sp = true) (since : Int) (l : List Spn) (i : Nat) (rec1) (K : Nat) (hK : 70000 ≤ K) :
    loopN (clash_L1 rec1) K (s, since, (0, 0, ()), (0, 0, ()), false, (sp.1, sp.2.1, sp.2.2, ()), sp.2.1, l, (l.length : Int), (i : Int), ()) =
      if (clashN (fun k => newS (chnOf s.2.2.2.1 k)) since sp.1 sp.2.1 (sp.2.2 - sp.2.1).toNat).2 then some (((clashN (fun k => newS (chnOf s.2.2.2.1 k)) since sp.1 sp.2.1 (sp.2.2 - sp.2.1).toNat).1, true, ()), s, (), (), ())
      else rec1 (s, since, (0, 0, ()), (0, 0, ()), false, l, (l.length : Int), IntKind.i64.wrap ((i : Int) + 1), ()) := by
  have h := spanR_iff.1 hsp
  refine loopN_meas (step := clash_L1 rec1) (fun x => (sp.2.2 - x.2.2.2.2.2.2.1).toNat) (fun x => ∃ a : Int, sp.2.1 ≤ a ∧ a ≤ sp.2.2 ∧ x = (s, since, (0, 0, ()), (0, 0, ()), false, (sp.1, sp.2.1, sp.2.2, ()), a, l, (l.length : Int), (i : Int), ()))
    (fun x => if (clashN (fun k => newS (chnOf s.2.2.2.1 k)) since sp.1 x.2.2.2.2.2.2.1 (sp.2.2 - x.2.2.2.2.2.2.1).toNat).2 then some (((clashN (fun k => newS (chnOf s.2.2.2.1 k)) since sp.1 x.2.2.2.2.2.2.1 (sp.2.2 - x.2.2.2.2.2.2.1).toNat).1, true, ()), s, (), (), ())
      else rec1 (s, since, (0, 0, ()), (0, 0, ()), false, l, (l.length : Int), IntKind.i64.wrap ((i : Int) + 1), ())) ?_ K _ ⟨sp.2.1, by omega, by omega, rfl⟩ (by simp only; omega)
  rintro x ⟨a, ha, hb, rfl⟩ rec hrec
  simp only [clash_L1]
  by_cases hlt : a < sp.2.2
  · obtain ⟨n, hn⟩ : ∃ n, (sp.2.2 - a).toNat = n + 1 := ⟨(sp.2.2 - a).toNat - 1, by omega⟩
    have hn' : (sp.2.2 - (a + 1)).toNat = n := by omega
    rw [br_dt hlt, bd_grd hs, hn, clashN]
    simp only
    by_cases hc : newS (chnOf s.2.2.2.1 (sp.1, a)) ≤ since
    · rw [br_dt hc, if_pos hc, wrapI (n := a + 1) (by omega) (by omega)]
      refine (hrec _ ⟨a + 1, by omega, by omega, rfl⟩ (by simp only; omega)).trans ?_
      simp only
      rw [hn']
    · rw [br_df hc, if_neg hc]
      rfl
  · rw [br_df hlt, show (sp.2.2 - a).toNat = 0 by omega]
    rfl
theorem v_clash : Valid Try.prog n_clash c_clash := by
  refine valid_fnc mixed hf_clash (by kernel_rfl) rfl (cfg := cfgW g_clash) tt_ok (Γok_cons v_stNewest Γok_nil) clash_tm c_clash (by kernel_rfl) (fun _ _ _ _ => ⟨⟩) ?_
  rintro ⟨(s : Sto), (l : List Spn), (since : Int), ⟨⟩⟩ r u h
  obtain ⟨h1, h2⟩ := grd_some h
  simp only [Bool.and_eq_true] at h1 h2
  have hl := lenOk_lt h1.2.1
  refine ⟨l.length + 70000, (clash_rn _ _ _ _).trans (Eq.trans ?_ (congrArg some h2))⟩
  unfold clash_P
  refine loopN_meas (step := clash_L2 (l.length + 70000)) (fun x => l.length - x.2.2.2.2.2.2.2.1.toNat) (fun x => ∃ i : Nat, i ≤ l.length ∧ x = (s, since, (0, 0, ()), (0, 0, ()), false, l, (l.length : Int), (i : Int), ()) ∧ clashP s.2.2.2.1 l since = clashP s.2.2.2.1 (l.drop i) since)
    (fun _ => some (((clashP s.2.2.2.1 l since).1, (clashP s.2.2.2.1 l since).2, ()), s, (), (), ())) ?_ _ _ ⟨0, by omega, rfl, rfl⟩ (by simp only; omega)
  rintro x ⟨i, hi, rfl, hr⟩ rec hrec
  simp only [clash_L2, Int.toNat_natCast]
  by_cases hlt : i < l.length
  · rw [br_dt (by omega), br_dt (by omega), br_dt (by omega)]
    have hsp : spanR (l.getD i (0, 0, 0)) = true := List.all_eq_true.1 h1.2.2 _ (mem_getD hlt)
    refine (clash_in h1.1 hsp since l i rec _ (by omega)).trans ?_
    have hcl : clashP s.2.2.2.1 l since = if (clashN (fun k => newS (chnOf s.2.2.2.1 k)) since (l.getD i (0, 0, 0)).1 (l.getD i (0, 0, 0)).2.1 ((l.getD i (0, 0, 0)).2.2 - (l.getD i (0, 0, 0)).2.1).toNat).2 then clashN (fun k => newS (chnOf s.2.2.2.1 k)) since (l.getD i (0, 0, 0)).1 (l.getD i (0, 0, 0)).2.1 ((l.getD i (0, 0, 0)).2.2 - (l.getD i (0, 0, 0)).2.1).toNat else clashP s.2.2.2.1 (l.drop (i + 1)) since := by
      rw [hr, drop_cons l i ((0, 0, 0) : Spn) hlt]; rfl
    by_cases hc : (clashN (fun k => newS (chnOf s.2.2.2.1 k)) since (l.getD i (0, 0, 0)).1 (l.getD i (0, 0, 0)).2.1 ((l.getD i (0, 0, 0)).2.2 - (l.getD i (0, 0, 0)).2.1).toNat).2 = true
    · rw [if_pos hc] at hcl ⊢
      rw [hcl, hc]
    · rw [if_neg hc] at hcl ⊢
      rw [wrapI (n := (i : Int) + 1) (by omega) (by omega)]
      exact hrec _ ⟨i + 1, by omega, by rw [show ((i + 1 : Nat) : Int) = (i : Int) + 1 by omega], hcl⟩ (by simp only; omega)
  · rw [br_df (by omega), hr, List.drop_eq_nil_of_le (by omega)]
    rfl
theorem v_fresh : Valid Try.prog n_fresh c_fresh := by
  refine valid_fnc mixed hf_fresh (by kernel_rfl) rfl (cfg := cfgW g_fresh) tt_ok (Γok_cons v_clash Γok_nil) fresh_tm c_fresh (by kernel_rfl) (fun _ _ _ _ => ⟨⟩) ?_
  rintro ⟨(s : Sto), (l : List Spn), (since : Int), ⟨⟩⟩ r u h
  obtain ⟨h1, h2⟩ := grd_some h
  refine ⟨0, (fresh_rn _ _ _ _).trans (Eq.trans ?_ (congrArg some h2))⟩
  unfold fresh_P
  rw [bd_grd h1]
  rfl
theorem v_rclash : Valid Try.prog n_rclash c_rclash := by
  refine valid_fnc mixed hf_rclash (by kernel_rfl) rfl (cfg := cfgW g_rclash) tt_ok (Γok_cons v_rnewest (Γok_cons v_rhas Γok_nil)) rclash_tm c_rclash (by kernel_rfl) (fun _ _ _ _ => ⟨⟩) ?_
  rintro ⟨(s : Ref), (l : List Spn), (since : Int), ⟨⟩⟩ r u h
  obtain ⟨h1, h2⟩ := grd_some h
  simp only [Bool.and_eq_true] at h1 h2
  have hs := (refOk_iff _).1 h1.1
  have hn := hs.rowsN
  have hf := hs.few
  refine ⟨s.2.2.1.length + 1, (rclash_rn _ _ _ _).trans (Eq.trans ?_ (congrArg some h2))⟩
  unfold rclash_P
  refine loopN_meas (step := rclash_L1) (fun x => s.2.2.1.length - x.2.2.2.2.1.toNat) (fun x => ∃ i : Nat, i ≤ s.2.2.1.length ∧ x = (s, l, since, (0, 0, ()), (i : Int), ()) ∧ clashD s.2.2.1 l since = clashD (s.2.2.1.drop i) l since)
    (fun _ => some (((clashD s.2.2.1 l since).1, (clashD s.2.2.1 l since).2, ()), (), (), (), ())) ?_ _ _ ⟨0, by omega, rfl, rfl⟩ (by simp only; omega)
  rintro x ⟨i, hi, rfl, hr⟩ rec hrec
  simp only [rclash_L1, Int.toNat_natCast, mk_eta]
  by_cases hlt : i < s.2.2.1.length
  · rw [br_dt (by omega), br_dt (by omega), br_dt (by omega), wrapI (n := (i : Int) + 1) (by omega) (by omega)]
    have hm := mem_len (mem_getD (z := ((0, 0), [])) hlt)
    have hcl : clashD s.2.2.1 l since = if newS (s.2.2.1.getD i ((0, 0), [])).2 > since && hasS l (s.2.2.1.getD i ((0, 0), [])).1 then ((s.2.2.1.getD i ((0, 0), [])).1, true) else clashD (s.2.2.1.drop (i + 1)) l since := by
      rw [hr, drop_cons s.2.2.1 i (((0, 0), []) : Row) hlt]; rfl
    have hgo : clashD s.2.2.1 l since = clashD (s.2.2.1.drop (i + 1)) l since → rec (s, l, since, (0, 0, ()), (i : Int) + 1, ()) = some (((clashD s.2.2.1 l since).1, (clashD s.2.2.1 l since).2, ()), (), (), (), ()) := fun he =>
      hrec _ ⟨i + 1, by omega, by rw [show ((i + 1 : Nat) : Int) = (i : Int) + 1 by omega], he⟩ (by simp only; omega)
    rw [bd_grd (lenOk_of' (Nat.lt_of_le_of_lt hm (by omega)))]
    simp only
    by_cases hc : newS (s.2.2.1.getD i ((0, 0), [])).2 > since
    · rw [br_dt hc, br_dt (by omega), br_dt (by omega), bd_grd h1.2]
      simp only
      rw [decide_eq_true hc, Bool.true_and] at hcl
      cases hh : hasS l (s.2.2.1.getD i ((0, 0), [])).1 with
      | true =>
        rw [hh, if_pos rfl] at hcl
        rw [hcl]
        refine (br_t rfl).trans ?_
        rw [br_dt (by omega), br_dt (by omega)]
      | false =>
        rw [hh, if_neg (by decide)] at hcl
        refine (br_f rfl).trans ?_
        exact hgo hcl
    · rw [br_df hc]
      rw [decide_eq_false hc, Bool.false_and, if_neg (by decide)] at hcl
      exact hgo hcl
  · rw [br_df (by omega), hr, List.drop_eq_nil_of_le (by omega)]
    rfl
theorem take_min_len {α : Type} (l : List α) (i n : Nat) : List.take (min (i + n) l.length - i) (l.drop i) = (l.drop i).take n := by
  by_cases h : i + n ≤ l.length
  · rw [Nat.min_eq_left h, show i + n - i = n by omega]
  · rw [Nat.min_eq_right (by omega), List.take_of_length_le (by rw [List.length_drop]; omega), List.take_of_length_le (by rw [List.length_drop]; omega)]
/-- what is so of the two stores behind j installs -/
structure Both (j : Nat) (s : Sto) (x : Ref) : Prop where
  os : StoOk s
  ox : RefOk x
  like : Like s x
  n : s.2.1 ≤ 20 * j
  k : x.2.2.1.length ≤ 20 * j
  e : s.1 ≤ j
  most : s.2.2.1 = 10000
theorem both_new : Both 0 (stNewS 0 10000) (rstNewS 0 10000) := ⟨stNewS_ok _ (by decide) (by decide), rstNewS_ok _ (by decide) (by decide), like_new _ _, Int.le_refl _, Nat.le_refl _, Int.le_refl _, rfl⟩
theorem instS_le (s : Sto) (l : List Cel) : (instS s l).2.2.1 ≤ s.2.1 + l.length ∧ (instS s l).2.1 ≤ s.1 + 1 ∧ (instS s l).2.2.2.1 = s.2.2.1 := by
  unfold instS
  split
  · exact ⟨by show s.2.1 ≤ s.2.1 + (l.length : Int); omega, by show s.1 ≤ s.1 + 1; omega, rfl⟩
  · split
    · exact ⟨by show s.2.1 ≤ s.2.1 + (l.length : Int); omega, by show s.1 ≤ s.1 + 1; omega, rfl⟩
    · split
      · exact ⟨by show s.2.1 ≤ s.2.1 + (l.length : Int); omega, by show s.1 ≤ s.1 + 1; omega, rfl⟩
      · exact ⟨Int.le_refl _, Int.le_refl _, rfl⟩
theorem rinstS_le (x : Ref) (l : List Cel) : (rinstS x l).2.2.2.1.length ≤ x.2.2.1.length + l.length := by
  unfold rinstS
  split
  · exact Nat.le_add_right _ _
  · split
    · exact Nat.le_add_right _ _
    · split
      · exact Nat.le_add_right _ _
      · exact len_laidAllR _ _ _
theorem both_inst {j : Nat} {s : Sto} {x : Ref} (h : Both j s x) (hj : j ≤ 1000) {l : List Cel} (hl : l.length ≤ 20) : (instS s l).1 = (rinstS x l).1 ∧ Both (j + 1) (instS s l).2 (rinstS x l).2 := by
  obtain ⟨g1, g2⟩ := like_inst h.os h.ox h.like l
  obtain ⟨e1, e2, e3⟩ := instS_le s l
  have e4 := rinstS_le x l
  have hn := h.n
  have hk := h.k
  have he := h.e
  have h4 := h.os.len
  have h5 := h.like.len
  refine ⟨g1, instS_ok h.os (by omega), rinstS_ok h.ox (by omega) (by omega), g2, ?_, ?_, ?_, e3.trans h.most⟩
  · push_cast; omega
  · omega
  · push_cast; omega
theorem v_stores : Valid Try.prog n_stores c_stores := by
  refine valid_fn mixed hf_stores (by kernel_rfl) rfl (ts := tmpsOf f_stores.results.toList) (by kernel_rfl) (cfg := cfgW g_stores) tt_ok (Γok_cons v_stNew (Γok_cons v_rstNew (Γok_cons v_cells (Γok_cons v_stInstall (Γok_cons v_rstInstall Γok_nil))))) stores_tm c_stores (by kernel_rfl) (fun _ _ _ _ => ⟨⟩) ?_
  rintro ⟨(ks : List Int), ⟨⟩⟩ r u h
  obtain ⟨h1, h2⟩ := grd_some h
  have hl := lenOk_lt h1
  simp only at hl h2
  refine ⟨20, (stores_rn _ _).trans (Eq.trans ?_ (congrArg some h2))⟩
  unfold stores_P
  refine loopN_meas (step := stores_L1) (fun x => 14 - x.2.2.2.1.toNat / 3) (fun x => ∃ (j : Nat) (s : Sto) (y : Ref), j ≤ 14 ∧ Both j s y ∧ x = (ks, s, y, ((3 * j : Nat) : Int), ()) ∧ storesGo (14 - j) (s, y) (ks.drop (3 * j)) = storesS ks)
    (fun _ => some (((storesS ks).1, (storesS ks).2, ()), (), ())) ?_ _ _ ⟨0, _, _, by omega, both_new, rfl, rfl⟩ (by simp only; omega)
  rintro x ⟨j, s, y, hj, hb, rfl, hr⟩ rec hrec
  simp only [stores_L1]
  by_cases hlt : 3 * j < ks.length
  · rw [br_dt (by omega)]
    by_cases h40 : 3 * j < 40
    · have hc : (cellsS ((ks.drop (3 * j)).take 3)).length ≤ 20 := cellsS_len _
      have hcut : List.take ((minI (((3 * j : Nat) : Int) + 3) (ks.length : Int)).toNat - ((3 * j : Nat) : Int).toNat) (List.drop ((3 * j : Nat) : Int).toNat ks) = (ks.drop (3 * j)).take 3 := by
        rw [minI_eq, show (min (((3 * j : Nat) : Int) + 3) (ks.length : Int)).toNat = min (3 * j + 3) ks.length by omega, Int.toNat_natCast]
        exact take_min_len _ _ _
      rw [br_dt (by omega), br_dt (by omega), wrapI (n := ((3 * j : Nat) : Int) + 3) (by omega) (by omega), hcut, br_dt (by rw [minI_eq]; omega), br_dt (by rw [minI_eq]; omega)]
      obtain ⟨g1, g2⟩ := both_inst hb (by omega) hc
      refine (bd_grd (and_t ((stoOk_iff _).2 hb.os) (lenOk_of' (by omega)))).trans ?_
      refine (bd_grd (and_t ((refOk_iff _).2 hb.ox) (and_t (lenOk_of' (by omega)) (decide_eq_true (by omega))))).trans ?_
      refine hrec _ ⟨j + 1, _, _, by omega, g2, ?_, ?_⟩ ?_
      · rw [show ((3 * (j + 1) : Nat) : Int) = ((3 * j : Nat) : Int) + 3 by push_cast; omega]
      · rw [← hr, show 14 - j = (14 - (j + 1)) + 1 by omega, storesGo, if_neg (fun e => by
          have := congrArg List.length e
          rw [List.length_drop] at this
          simp only [List.length_nil] at this
          omega), List.drop_drop]
        rfl
      · simp only; omega
    · have : j = 14 := by omega
      subst this
      rw [br_df (by omega)]
      have : storesS ks = (s, y) := hr.symm
      rw [this]
  · rw [br_df (by omega)]
    rw [List.drop_eq_nil_of_le (by omega)] at hr
    have hg : ∀ n (p : Sto × Ref), storesGo n p [] = p := by
      intro n p
      cases n with
      | zero => rfl
      | succ n => rw [storesGo, if_pos rfl]
    rw [hg] at hr
    rw [← hr]
end Go.BB
