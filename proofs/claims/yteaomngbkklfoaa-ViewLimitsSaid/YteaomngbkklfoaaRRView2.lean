/- A symbolic machine for the model's code, and what it shows of this seat's functions. No conditions. -/
import Derived.Test.YteaomngbkklfoaaRLawView2
import Derived.Test.YteaomngbkklfoaaRows
import Derived.WalkKit
import Derived.ProofKit
set_option linter.unusedSimpArgs false
set_option linter.unusedVariables false
namespace Go.BB
open Go Go.Proofs
set_option maxRecDepth 100000
theorem putR_append : ∀ (b : List Cel) (c : Cel), (∀ x ∈ b, keyLt x.1 c.1 = true) → putR b c = b ++ [c]
  | [], c, _ => rfl
  | a :: b, c, h => by
    rw [putR, if_pos (h a List.mem_cons_self), putR_append b c fun x hx => h x (List.mem_cons_of_mem _ hx)]; rfl
theorem bufS_app_lt : ∀ (b : List Cel) (c : Cel) (l : List Cel), bufS (b ++ c :: l) = true → ∀ x ∈ b, keyLt x.1 c.1 = true
  | [], _, _, _, x, hx => by cases hx
  | a :: b, c, l, h, x, hx => by
    have h' : bufS (a :: (b ++ c :: l)) = true := h
    rw [bufS_cons] at h'
    rcases List.mem_cons.1 hx with e | hx
    · rw [e]; exact h'.1 c (List.mem_append_right _ List.mem_cons_self)
    · exact bufS_app_lt b c l h'.2 x hx
theorem putK_all : ∀ (l b : List Cel), bufS (b ++ l) = true → l.foldl putK b = b ++ l
  | [], b, _ => by simp
  | c :: l, b, h => by
    have e : putK b c = b ++ [c] := by rw [putK_eq]; exact putR_append b c (bufS_app_lt b c l h)
    rw [List.foldl_cons, e, putK_all l (b ++ [c]) (by rw [List.append_assoc]; exact h), List.append_assoc]; rfl
theorem writesS_self (q : Int) (r : List Spn) {l : List Cel} (h : bufS l = true) : writesS (q, r, []) l = l := putK_all l [] h
theorem getK_nil (k : Key) : getK [] k = (0, false) := rfl
theorem own_loop {l : List Cel} (hl : bufS l = true) (hn : l.length ≤ 20) {sp : Spn} (hr : spanR sp = true) (h60 : (sp.2.2 - sp.2.1).toNat ≤ 60) (q : Int) (c c' : Chs) (hc : ∀ k, atV (chnOf c' k) q = atV (chnOf c k) q) :
    loopN lViewOwn_L1 100 ((sp.1, sp.2.1, sp.2.2, ()), lookP c (q, [], []) sp, l, (q, readsS (q, [], l) sp, l, ()), lookP c' (q, [], l) sp, 0, ()) = some ((true, ()), (), (), (), (), ()) := by
  have hs := spanR_iff.1 hr
  have hv : ViewOk (q, [], l) := ⟨rfl, hl, by simp, by simp only; omega⟩
  have h1 := lookP_len c (q, [], []) sp
  have h2 := lookP_len c' (q, [], l) sp
  have h3 := readsS_len (q, [], l) sp
  simp only [List.length_nil] at h3
  refine loopN_for (step := lViewOwn_L1) (sp.2.2 - sp.2.1).toNat (fun i => ((sp.1, sp.2.1, sp.2.2, ()), lookP c (q, [], []) sp, l, (q, readsS (q, [], l) sp, l, ()), lookP c' (q, [], l) sp, (i : Int), ())) (fun i hi rec => ?_) (fun rec => ?_) 100 (by omega)
  · have gF : (lookP c (q, [], []) sp).getD i 0 = atV (chnOf c (sp.1, sp.2.1 + (i : Int))) q := by
      unfold lookP
      rw [lookN_get _ _ _ _ _ _ _ hi, getK_nil]; rfl
    have gG : (lookP c' (q, [], l) sp).getD i 0 = if (getK l (sp.1, sp.2.1 + (i : Int))).2 then (getK l (sp.1, sp.2.1 + (i : Int))).1 else atV (chnOf c' (sp.1, sp.2.1 + (i : Int))) q := by
      unfold lookP
      rw [lookN_get _ _ _ _ _ _ _ hi]
    have gH : hasS (readsS (q, [], l) sp) (sp.1, sp.2.1 + (i : Int)) = !(getK l (sp.1, sp.2.1 + (i : Int))).2 := by
      rw [← Bool.coe_iff_coe, readsS_has hv hr, Bool.not_eq_true']
      have hin : hasS [sp] (sp.1, sp.2.1 + (i : Int)) = true := (hasS_one1 _ _).2 ⟨rfl, by simp only; omega, by simp only; omega⟩
      constructor
      · rintro (h | h)
        · cases h
        · exact h.2
      · intro h; exact .inr ⟨hin, h⟩
    simp only [lViewOwn_L1, Int.toNat_natCast]
    rw [br_dt (by rw [h2]; omega), wrapI (n := sp.2.1 + (i : Int)) (by omega) (by omega), wrapI (n := (i : Int) + 1) (by omega) (by omega)]
    refine (bd_grd (and_t (lenOk_of' (by omega)) hl)).trans ?_
    simp only [gF, gG, gH, hc]
    generalize getK l (sp.1, sp.2.1 + (i : Int)) = g
    obtain ⟨g1, g2⟩ := g
    cases g2
    · refine (br_t rfl).trans ?_
      refine (br_dt (by omega)).trans ?_
      refine (br_dt (by rw [h1]; omega)).trans ?_
      refine (br_dt (by omega)).trans ?_
      refine (br_dt (by rw [h2]; omega)).trans ?_
      refine (br_f (by simp)).trans ?_
      refine (bd_grd (lenOk_of' (by omega))).trans ?_
      rfl
    · refine (br_f rfl).trans ?_
      refine (br_dt (by omega)).trans ?_
      refine (br_dt (by rw [h2]; omega)).trans ?_
      refine (br_f (by simp)).trans ?_
      refine (bd_grd (lenOk_of' (by omega))).trans ?_
      rfl
  · simp only [lViewOwn_L1]
    rw [br_df (by rw [h2]; omega)]
theorem lv_ViewOwn : Valid Try.prog n_lViewOwn ⟨valsOf [.slice tI, .slice tI, .slice tI, tI], [.val .bool], Fok (tys := [.slice tI, .slice tI, .slice tI, tI]) (fun _ => true) ((), (), (), (), ())⟩ := by
  refine valid_law mixed hf_lViewOwn (by kernel_rfl) rfl (ts := tmpsOf f_lViewOwn.results.toList) (by kernel_rfl) (cfg := cfgW g_lViewOwn) tt_ok
    (Γok_cons v_awake19 (Γok_cons v_stores (Γok_cons v_span (Γok_cons v_look (Γok_cons v_stLast (Γok_cons v_cells (Γok_cons v_viewWrite (Γok_cons v_stInstall (Γok_cons v_viewRead (Γok_cons v_rbget (Γok_cons v_rhas Γok_nil))))))))))) lViewOwn_tm (by kernel_rfl) ?_
  rintro ⟨(ks : List Int), (own : List Int), (more : List Int), (k : Int), ⟨⟩⟩ _
  refine ⟨100, (lViewOwn_rn _ _ _ _ _).trans ?_⟩
  unfold lViewOwn_P
  by_cases hks : (ks.length : Int) > 40
  · rw [br_dt hks]; rfl
  by_cases hl1 : (own.length : Int) > 20
  · rw [br_df hks, br_dt hl1]; rfl
  by_cases hl2 : (more.length : Int) > 20
  · rw [br_df hks, br_df hl1, br_dt hl2]; rfl
  obtain ⟨j, hj, hb⟩ := storesS_both ks
  have h2 := spanR_iff.1 (spanS_ok k)
  have he : minI (spanS k).2.2 (IntKind.i64.wrap ((spanS k).2.1 + 60)) = (shortS k).2.2 := congrArg (fun s : Spn => s.2.2) (short_eq k)
  rw [br_df hks, br_df hl1, br_df hl2, brNT, bd_grd (lenOk_of' (by omega))]
  simp only [sto_eta, ref_eta, short_eq, he]
  have hsh1 : (spanS k).1 = (shortS k).1 := rfl
  have hsh2 : (spanS k).2.1 = (shortS k).2.1 := rfl
  rw [hsh1, hsh2]
  have hr := short_right k
  have h60 := short_len k
  generalize shortS k = sp at hr h60
  have hsp := spanR_iff.1 hr
  have lo := cellsS_len own
  have bo := cellsS_buf own
  have lm := cellsS_len more
  have bm := cellsS_buf more
  have om : cellsS more ≠ [] → onceS (cellsS more) = true := onceS_cells
  generalize cellsS own = l at lo bo
  generalize cellsS more = m at lm bm om
  generalize (storesS ks).1 = s at hb
  have hs : stoOk s = true := (stoOk_iff _).2 hb.os
  have hww : viewWrite (s.1, [], []) l 100 = ((s.1, [], l), 0) := by
    have e := writesS_self s.1 [] bo
    rw [viewWrite_fit (by rw [e]; omega), e]
  have hvl : ViewOk (s.1, [], l) := ⟨rfl, bo, by simp, by simp only; omega⟩
  have hfit : ∀ x, viewRead (s.1, [], l) sp 100 x = (((s.1, readsS (s.1, [], l) sp, l), x), 0) := fun x => viewRead_fit (by
    have := readsS_len (s.1, [], l) sp
    simp only [List.length_nil] at this
    omega) x
  refine (bd_grd (and_t hs (and_t (vok (viewOk_nil _)) hr))).trans ?_
  refine (bd_grd (and_t (vok (viewOk_nil _)) (by simp; omega))).trans ?_
  simp only [List.take_length, hww]
  have hwrap : IntKind.i64.wrap (sp.2.2 - sp.2.1) = sp.2.2 - sp.2.1 := wrapI (by omega) (by omega)
  by_cases hm : m = []
  · subst hm
    refine (br_df (by simp)).trans ?_
    refine (bd_grd (and_t hs (and_t (vok hvl) hr))).trans ?_
    simp only [hfit, hwrap, lookP_len]
    refine (br_f (by decide)).trans ?_
    refine (br_f (by decide)).trans ?_
    refine (br_f (by simp; omega)).trans ?_
    refine (br_f (by simp)).trans ?_
    exact own_loop bo lo hr h60 s.1 _ _ fun _ => rfl
  · have hp : 0 < m.length := List.length_pos_iff.2 hm
    have h3 := hb.n
    have h4 := hb.e
    have h5 := hb.most
    have hin : instS s m = ((s.1 + 1, 0), (s.1 + 1, s.2.1 + m.length, s.2.2.1, laidAll (s.1 + 1) s.2.2.2.1 m, ())) := instS_new (om hm) (by omega) (by omega)
    have hs' := instS_ok hb.os (l := m) (by omega)
    refine (br_dt (by omega)).trans ?_
    refine (bd_grd (and_t hs (lenOk_of' (by omega)))).trans ?_
    rw [hin] at hs' ⊢
    simp only at hs' ⊢
    have hs2 : stoOk ((s.1 + 1, s.2.1 + (m.length : Int), s.2.2.1, laidAll (s.1 + 1) s.2.2.2.1 m, ()) : Sto) = true := (stoOk_iff _).2 hs'
    refine (br_f (by decide)).trans ?_
    refine (bd_grd (and_t hs2 (and_t (vok hvl) hr))).trans ?_
    simp only [hfit, hwrap, lookP_len]
    refine (br_f (by decide)).trans ?_
    refine (br_f (by decide)).trans ?_
    refine (br_f (by simp; omega)).trans ?_
    refine (br_f (by simp)).trans ?_
    refine own_loop bo lo hr h60 s.1 _ _ fun q => ?_
    rw [chnOf_laidAll _ _ _ _ (nodupK_buf bm)]
    have hq := chnOf_ok hb.os q
    cases m.find? (fun c => decide (c.1 = q)) with
    | none => rfl
    | some d =>
      refine (atV_snoc hq.1 ?_ _).trans (if_neg ?_)
      · show newS _ < s.1 + 1; omega
      · show ¬ s.1 + 1 ≤ s.1; omega
end Go.BB
set_option linter.unusedSimpArgs false
set_option linter.unusedVariables false
namespace Go.BB
open Go Go.Proofs
set_option maxRecDepth 100000
def limR : Nat → List Spn
  | 0 => []
  | i + 1 => limR i ++ [(1, 3 * (i : Int), 3 * (i : Int) + 2)]
def limW : Nat → List Cel
  | 0 => []
  | i + 1 => limW i ++ [((0, 2 * (i : Int)), 1)]
theorem limR_len : ∀ i, (limR i).length = i
  | 0 => rfl
  | i + 1 => by rw [limR, List.length_append, limR_len i]; rfl
theorem limW_len : ∀ i, (limW i).length = i
  | 0 => rfl
  | i + 1 => by rw [limW, List.length_append, limW_len i]; rfl
theorem limR_mem : ∀ (i : Nat) (x : Spn), x ∈ limR i ↔ ∃ j : Nat, j < i ∧ x = (1, 3 * (j : Int), 3 * (j : Int) + 2)
  | 0, x => ⟨fun h => (by cases h), fun ⟨j, h, _⟩ => absurd h (Nat.not_lt_zero j)⟩
  | i + 1, x => by
    rw [limR, List.mem_append, limR_mem i, List.mem_singleton]
    constructor
    · rintro (⟨j, h1, h2⟩ | h)
      · exact ⟨j, by omega, h2⟩
      · exact ⟨i, by omega, h⟩
    · rintro ⟨j, h1, h2⟩
      by_cases e : j = i
      · subst e; exact .inr h2
      · exact .inl ⟨j, by omega, h2⟩
theorem limW_mem : ∀ (i : Nat) (x : Cel), x ∈ limW i ↔ ∃ j : Nat, j < i ∧ x = ((0, 2 * (j : Int)), 1)
  | 0, x => ⟨fun h => (by cases h), fun ⟨j, h, _⟩ => absurd h (Nat.not_lt_zero j)⟩
  | i + 1, x => by
    rw [limW, List.mem_append, limW_mem i, List.mem_singleton]
    constructor
    · rintro (⟨j, h1, h2⟩ | h)
      · exact ⟨j, by omega, h2⟩
      · exact ⟨i, by omega, h⟩
    · rintro ⟨j, h1, h2⟩
      by_cases e : j = i
      · subst e; exact .inr h2
      · exact .inl ⟨j, by omega, h2⟩
theorem addGo_append : ∀ (l : List Spn) (s : Spn), (∀ x ∈ l, aheadS x s = true) → addGo l s = l ++ [s]
  | [], s, _ => rfl
  | x :: l, s, h => by rw [addGo, if_pos (h x List.mem_cons_self), addGo_append l s fun y hy => h y (List.mem_cons_of_mem _ hy)]; rfl
theorem limR_add (i : Nat) : addGo (limR i) (1, 3 * (i : Int), 3 * (i : Int) + 2) = limR (i + 1) := by
  rw [addGo_append _ _ fun x hx => ?_]
  · rfl
  · obtain ⟨j, h1, rfl⟩ := (limR_mem i x).1 hx
    exact aheadS_iff.2 (.inr ⟨rfl, by simp only; omega⟩)
theorem limS_right {i : Nat} (h : i ≤ 30) : spanR (1, 3 * (i : Int), 3 * (i : Int) + 2) = true :=
  spanR_iff.2 ⟨by simp only; omega, by simp only; omega, by simp only; omega, by simp only; omega, by simp only; omega⟩
theorem limR_canon : ∀ i, i ≤ 30 → canonS (limR i) = true
  | 0, _ => rfl
  | i + 1, h => by rw [← limR_add]; exact addGo_canon (limR_canon i (by omega)) (limS_right (by omega))
theorem limW_put (i : Nat) : putK (limW i) ((0, 2 * (i : Int)), 1) = limW (i + 1) := by
  rw [putK_eq, putR_append]
  · rfl
  · intro x hx
    obtain ⟨j, h1, rfl⟩ := (limW_mem i x).1 hx
    exact keyLt_iff.2 (.inr ⟨rfl, by simp only; omega⟩)
theorem limW_buf : ∀ i, bufS (limW i) = true
  | 0 => rfl
  | i + 1 => by rw [← limW_put]; exact bufS_putK _ (limW_buf i)
theorem putR_len_mem : ∀ {l : List Cel} {c : Cel}, bufS l = true → (∃ x ∈ l, x.1 = c.1) → (putR l c).length = l.length
  | [], _, _, ⟨x, h, _⟩ => by cases h
  | a :: l, c, hb, ⟨x, hx, e⟩ => by
    rw [bufS_cons] at hb
    rw [putR]
    rcases key_three a.1 c.1 with ⟨h1, h2, _⟩ | ⟨h1, h2⟩ | ⟨h1, h2, h3⟩
    · rw [if_pos h1]
      rcases List.mem_cons.1 hx with e' | hx'
      · exact absurd (e' ▸ e) h2
      · simp only [List.length_cons, putR_len_mem hb.2 ⟨x, hx', e⟩]
    · rw [if_neg (by rw [h2]; decide), if_pos h1]; rfl
    · exfalso
      rcases List.mem_cons.1 hx with e' | hx'
      · exact h2 (e' ▸ e)
      · have := keyLt_trans h3 (hb.1 x hx')
        rw [e, keyLt_irrefl] at this; cases this
theorem lim_view {n m : Nat} (hn : n ≤ 30) (hm : m ≤ 30) : ViewOk (0, limR n, limW m) := ⟨limR_canon n hn, limW_buf m, by simp only [limR_len]; omega, by simp only [limW_len]; omega⟩
theorem lim_writes (n i : Nat) : writesS (0, limR n, limW i) [((0, 2 * (i : Int)), 1)] = limW (i + 1) := limW_put i
theorem lim_end {n m : Nat} (hn : n < 30) (hm : m < 30) (s : Sto) (hs : stoOk s = true) (K : Nat) (hK : 40 ≤ K) :
    loopN lViewLimits_L1 K ((n : Int), (m : Int), s, (0, limR n, [], ()), 0, ()) = some ((true, ()), (), (), ()) := by
  refine loopN_for (step := lViewLimits_L1) (m + 1) (fun i => ((n : Int), (m : Int), s, (0, limR n, limW (min i m), ()), (i : Int), ())) (fun i hi rec => ?_) (fun rec => ?_) K (by omega)
  · have hv := lim_view (n := n) (m := min i m) (by omega) (by omega)
    simp only [lViewLimits_L1, sto_eta, List.take_length]
    rw [br_dt (by omega), wrapI (n := 2 * (i : Int)) (by omega) (by omega), wrapI (n := (i : Int) + 1) (by omega) (by omega)]
    refine (bd_grd (and_t (vok hv) (by simp))).trans ?_
    by_cases him : i < m
    · have e : viewWrite (0, limR n, limW (min i m)) [((0, 2 * (i : Int)), 1)] (m : Int) = ((0, limR n, limW (i + 1)), 0) := by
        rw [Nat.min_eq_left (by omega), viewWrite_fit (by rw [lim_writes, limW_len]; omega), lim_writes]
      simp only [e]
      refine (br_f (by rw [decide_eq_true (by omega)]; rfl)).trans ?_
      refine (br_f (by decide)).trans ?_
      refine (br_t (by decide)).trans ?_
      refine (br_f (by rw [limW_len]; simp)).trans ?_
      rw [Nat.min_eq_left (by omega)]
      rfl
    · have ei : i = m := by omega
      subst ei
      have e : viewWrite (0, limR n, limW (min i i)) [((0, 2 * (i : Int)), 1)] (i : Int) = ((0, limR n, limW i), 4) := by
        rw [Nat.min_self]
        unfold viewWrite
        rw [if_pos (by rw [lim_writes, limW_len]; push_cast; omega)]
      simp only [e]
      refine (br_f (by rw [decide_eq_false (by omega)]; rfl)).trans ?_
      refine (br_t (by decide)).trans ?_
      refine (br_f (by decide)).trans ?_
      refine (br_f (by rw [limW_len]; simp)).trans ?_
      refine (br_f (by decide)).trans ?_
      rw [Nat.min_eq_right (by omega)]
      rfl
  · have hv := lim_view (n := n) (m := m) (by omega) (by omega)
    simp only [lViewLimits_L1, sto_eta, List.take_length]
    rw [br_df (by omega), Nat.min_eq_right (by omega)]
    have hsp : spanR ((1 : Int), (0 : Int), (2 : Int)) = true := by decide
    have hw : 0 < m → viewWrite (0, limR n, limW m) [((0, 0), 0)] (m : Int) = ((0, limR n, putK (limW m) ((0, 0), 0)), 0) := fun h => by
      have e : (putK (limW m) ((0, 0), 0)).length = m := by
        rw [putK_eq, putR_len_mem (c := ((0, 0), 0)) (limW_buf m) ⟨((0, 2 * ((0 : Nat) : Int)), 1), (limW_mem m _).2 ⟨0, h, rfl⟩, rfl⟩, limW_len]
      exact viewWrite_fit (by show ((putK (limW m) ((0, 0), 0)).length : Int) ≤ _; rw [e]; omega)
    have hfin : br ((((limR n).length : Int)) == (n : Int)) (some (((((limW m).length : Int)) == (m : Int), ()), (), (), ())) (some ((false, ()), (), (), ())) = some ((true, ()), (), (), ()) := by
      rw [limR_len, limW_len, br_t (by simp)]; simp
    have hsecond : br (decide ((m : Int) > 0)) (bd (grd (viewOk (0, limR n, limW m) && (decide ([(((0 : Int), (0 : Int)), (0 : Int))].length ≤ 100000) && true)) (((viewWrite (0, limR n, limW m) [((0, 0), 0)] (m : Int)).1, (viewWrite (0, limR n, limW m) [((0, 0), 0)] (m : Int)).2, ()), (), [(((0 : Int), (0 : Int)), (0 : Int))], (), ())) fun (x : (Vw × Int × Unit) × Unit × List Cel × Unit × Unit) =>
        br (x.1.2.1 != (0 : Int)) (some ((false, ()), (), (), ())) (br ((((limR n).length : Int)) == (n : Int)) (some (((((limW m).length : Int)) == (m : Int), ()), (), (), ())) (some ((false, ()), (), (), ()))))
        (br ((((limR n).length : Int)) == (n : Int)) (some (((((limW m).length : Int)) == (m : Int), ()), (), (), ())) (some ((false, ()), (), (), ()))) = some ((true, ()), (), (), ()) := by
      by_cases h : (m : Int) > 0
      · rw [br_dt h]
        refine (bd_grd (and_t (vok hv) (by simp))).trans ?_
        simp only [hw (by omega)]
        refine (br_f (by decide)).trans ?_
        exact hfin
      · rw [br_df h]; exact hfin
    by_cases h : (n : Int) > 0
    · refine (br_dt h).trans ?_
      refine (bd_grd (and_t hs (and_t (vok hv) hsp))).trans ?_
      have er : readsS (0, limR n, limW m) (1, 0, 2) = limR n := by
        refine canon_ext (readsS_canon hv hsp) hv.canon fun k => ?_
        rw [readsS_has hv hsp]
        refine ⟨fun h' => h'.elim id fun h' => ?_, .inl⟩
        have h3 := (hasS_one1 _ _).1 h'.1
        have : hasS (limR n) k = true := by
          simp only [hasS, List.any_eq_true, Bool.and_eq_true, decide_eq_true_eq]
          exact ⟨_, (limR_mem n _).2 ⟨0, by omega, rfl⟩, h3.1, h3.2.1, h3.2.2⟩
        exact this
      have ef : ∀ x, viewRead (0, limR n, limW m) (1, 0, 2) (n : Int) x = (((0, limR n, limW m), x), 0) := fun x => by
        rw [viewRead_fit (by rw [er, limR_len]; omega), er]
      simp only [ef]
      refine (br_f (by decide)).trans ?_
      exact hsecond
    · refine (br_df h).trans ?_
      exact hsecond
theorem lv_ViewLimits : Valid Try.prog n_lViewLimits ⟨valsOf [tI, tI], [.val .bool], Fok (tys := [tI, tI]) (fun _ => true) ((), (), ())⟩ := by
  refine valid_law mixed hf_lViewLimits (by kernel_rfl) rfl (ts := tmpsOf f_lViewLimits.results.toList) (by kernel_rfl) (cfg := cfgW g_lViewLimits) tt_ok
    (Γok_cons v_awake19 (Γok_cons v_within (Γok_cons v_stNew (Γok_cons v_viewRead (Γok_cons v_viewWrite Γok_nil))))) lViewLimits_tm (by kernel_rfl) ?_
  rintro ⟨(a : Int), (b : Int), ⟨⟩⟩ _
  refine ⟨50, (lViewLimits_rn _ _ _).trans ?_⟩
  unfold lViewLimits_P
  have a0 := Int.emod_nonneg a (show (30 : Int) ≠ 0 by decide)
  have a1 := Int.emod_lt_of_pos a (show (0 : Int) < 30 by decide)
  have b0 := Int.emod_nonneg b (show (30 : Int) ≠ 0 by decide)
  have b1 := Int.emod_lt_of_pos b (show (0 : Int) < 30 by decide)
  rw [brNT, bd_grd (by decide), bd_grd (by decide)]
  simp only [sto_eta]
  obtain ⟨n, hn⟩ : ∃ n : Nat, a % 30 = (n : Int) := ⟨(a % 30).toNat, by omega⟩
  obtain ⟨m, hm⟩ : ∃ m : Nat, b % 30 = (m : Int) := ⟨(b % 30).toNat, by omega⟩
  rw [hn, hm]
  have hs : stoOk (stNewS 0 10) = true := (stoOk_iff _).2 (stNewS_ok 10 (by decide) (by decide))
  generalize stNewS 0 10 = s at hs
  refine loopN_for (step := lViewLimits_L2 50) (n + 1) (fun i => ((n : Int), (m : Int), s, (0, limR (min i n), [], ()), (i : Int), ())) (fun i hi rec => ?_) (fun rec => ?_) 50 (by omega)
  · have hv : ViewOk (0, limR (min i n), []) := lim_view (n := min i n) (m := 0) (by omega) (by omega)
    have hr := limS_right (i := i) (by omega)
    simp only [lViewLimits_L2, sto_eta]
    rw [br_dt (by omega), wrapI (n := 3 * (i : Int)) (by omega) (by omega), wrapI (n := 3 * (i : Int) + 2) (by omega) (by omega), wrapI (n := (i : Int) + 1) (by omega) (by omega)]
    refine (bd_grd (and_t hs (and_t (vok hv) hr))).trans ?_
    by_cases him : i < n
    · have e : ∀ x, viewRead (0, limR (min i n), []) (1, 3 * (i : Int), 3 * (i : Int) + 2) (n : Int) x = (((0, limR (i + 1), []), x), 0) := fun x => by
        have er : readsS (0, limR i, []) (1, 3 * (i : Int), 3 * (i : Int) + 2) = limR (i + 1) := by rw [readsS_nil _ _ hr, limR_add]
        rw [Nat.min_eq_left (by omega), viewRead_fit (by rw [er, limR_len]; omega), er]
      simp only [e]
      refine (br_f (by rw [decide_eq_true (by omega)]; rfl)).trans ?_
      refine (br_f (by decide)).trans ?_
      refine (br_t (by decide)).trans ?_
      refine (br_f (by rw [lookP_len]; simp only [bne_eq_false_iff_eq]; omega)).trans ?_
      refine (br_f (by rw [limR_len]; simp)).trans ?_
      rw [Nat.min_eq_left (by omega)]
      rfl
    · have ei : i = n := by omega
      subst ei
      have e : ∀ x, viewRead (0, limR (min i i), []) (1, 3 * (i : Int), 3 * (i : Int) + 2) (i : Int) x = (((0, limR i, []), []), 4) := fun x => by
        have er : readsS (0, limR i, []) (1, 3 * (i : Int), 3 * (i : Int) + 2) = limR (i + 1) := by rw [readsS_nil _ _ hr, limR_add]
        rw [Nat.min_self]
        unfold viewRead
        rw [if_pos (by rw [er, limR_len]; push_cast; omega)]
      simp only [e]
      refine (br_f (by rw [decide_eq_false (by omega)]; rfl)).trans ?_
      refine (br_t (by decide)).trans ?_
      refine (br_f (by decide)).trans ?_
      refine (br_f (by decide)).trans ?_
      refine (br_f (by rw [limR_len]; simp)).trans ?_
      refine (br_f (by decide)).trans ?_
      rw [Nat.min_eq_right (by omega)]
      rfl
  · simp only [lViewLimits_L2, sto_eta]
    rw [br_df (by omega), Nat.min_eq_right (by omega)]
    exact lim_end (by omega) (by omega) s hs 50 (by omega)
end Go.BB
set_option linter.unusedSimpArgs false
set_option linter.unusedVariables false
namespace Go.Proofs.Yteaomngbkklfoaa
open Go.BB Go.ChangeShapes Go.WideShapes Go.ChangeAt Go.RowKit
namespace Bb
theorem own : ownKnob Try.prog.godebug = none := by kernel_rfl
theorem laidOut : laidOutB Try.prog = true := by kernel_rfl
theorem reads (ts : List Nat) (h : (ts.all fun t => Try.prog.readableRec t && decide (t < Try.prog.types.size)) = true) : ∀ t ∈ ts, Try.prog.readableRec t = true ∧ t < Try.prog.types.size := by
  intro t ht
  have := List.all_eq_true.1 h t ht
  simpa using this
end Bb
namespace viewOwn
set_option maxRecDepth 100000 in
theorem lifted (os : Os) (started : os.Started) (H : Type) (enc : TypeId × Value → H) :
    ReturnsInHanded {} Try.checked os 10 .any (Rows.viewOwnSpec.pre6 enc Try.prog Try.f10 Rows.viewOwnRow.domain false) (Rows.viewOwnSpec.post enc Try.prog Try.f10 false true false false) :=
  law_lifted2 (C := Try.checked) (O := O0) (tys := [.slice tI, .slice tI, .slice tI, tI]) Bb.own started (by kernel_rfl) Try.func10
    (ChangeSpec.witness6 (enc := enc) (C := Try.checked) false ⟨#[], #[.slice none 0 0, .slice none 0 0, .slice none 0 0, .int .i64 0], []⟩ 8 (by kernel_rfl) (by kernel_rfl) (by kernel_rfl) (by kernel_rfl))
    Bb.laidOut (by kernel_rfl) (Bb.reads _ (by kernel_rfl)) rfl Try.underlying4 rfl (fun ds h => by match ds, h with | [_, _, _, _], _ => rfl) lv_ViewOwn (fun x h => ⟨_, grd_t rfl⟩)
theorem over : Rows.viewOwnRow.holds Try.pinned (OpenSpec.ofChange Rows.viewOwnSpec) :=
  OpenClaim.holds_of_wide 10 Try.f10 rfl rfl rfl rfl rfl rfl rfl ⟨rfl, rfl, rfl, rfl, rfl⟩ rfl rfl rfl rfl rfl (by kernel_rfl) Try.func10 (by kernel_rfl)
    (of_decide_eq_true (by kernel_rfl)) (by unfold Func.isWrapper; first | (rw [if_pos (by decide +kernel)]; kernel_rfl) | (rw [if_neg (by decide +kernel)]; exact ⟨rfl, rfl⟩))
    (fun os started H enc _ => lifted os started H enc)
end viewOwn
/-- The row ViewOwn. -/
theorem viewOwn_holds : Rows.ViewOwnSaid := viewOwn.over
#print axioms viewOwn_holds
namespace viewLimits
set_option maxRecDepth 100000 in
theorem lifted (os : Os) (started : os.Started) (H : Type) (enc : TypeId × Value → H) :
    ReturnsInHanded {} Try.checked os 7 .any (Rows.viewLimitsSpec.pre6 enc Try.prog Try.f7 Rows.viewLimitsRow.domain false) (Rows.viewLimitsSpec.post enc Try.prog Try.f7 false true false false) :=
  law_lifted2 (C := Try.checked) (O := O0) (tys := [tI, tI]) Bb.own started (by kernel_rfl) Try.func7
    (ChangeSpec.witness6 (enc := enc) (C := Try.checked) false ⟨#[], #[.int .i64 0, .int .i64 0], []⟩ 8 (by kernel_rfl) (by kernel_rfl) (by kernel_rfl) (by kernel_rfl))
    Bb.laidOut (by kernel_rfl) (Bb.reads _ (by kernel_rfl)) rfl Try.underlying4 rfl (fun ds h => by match ds, h with | [_, _], _ => rfl) lv_ViewLimits (fun x h => ⟨_, grd_t rfl⟩)
theorem over : Rows.viewLimitsRow.holds Try.pinned (OpenSpec.ofChange Rows.viewLimitsSpec) :=
  OpenClaim.holds_of_wide 7 Try.f7 rfl rfl rfl rfl rfl rfl rfl ⟨rfl, rfl, rfl, rfl, rfl⟩ rfl rfl rfl rfl rfl (by kernel_rfl) Try.func7 (by kernel_rfl)
    (of_decide_eq_true (by kernel_rfl)) (by unfold Func.isWrapper; first | (rw [if_pos (by decide +kernel)]; kernel_rfl) | (rw [if_neg (by decide +kernel)]; exact ⟨rfl, rfl⟩))
    (fun os started H enc _ => lifted os started H enc)
end viewLimits
/-- The row ViewLimits. -/
theorem viewLimits_holds : Rows.ViewLimitsSaid := viewLimits.over
#print axioms viewLimits_holds
end Go.Proofs.Yteaomngbkklfoaa
