/- A symbolic machine for the model's code, and what it shows of this seat's functions. No conditions. -/
import Derived.Test.YtnofmeckcimodaaEGfea
import Derived.Test.YtnofmeckcimodaaEVfea
import Derived.Test.YtnofmeckcimodaaEVfile
import Derived.Test.YtnofmeckcimodaaEVfdo2
import Derived.Test.YtnofmeckcimodaaEN
import Derived.Test.YtnofmeckcimodaaESFdo
set_option linter.unusedSimpArgs false
set_option linter.unusedVariables false
namespace Go.BB
open Go Go.Proofs
set_option maxRecDepth 100000
theorem v_growSp : Valid Try.prog n_growSp c_growSp := by
  refine valid_fn mixed hf_growSp (by kernel_rfl) rfl (ts := tmpsOf f_growSp.results.toList) (by kernel_rfl) (cfg := cfgW g_growSp) tt_ok Γok_nil growSp_tm c_growSp (by kernel_rfl) (fun _ _ _ _ => ⟨⟩) ?_
  rintro ⟨⟨⟩, (n : Int), ⟨⟩⟩ r u h
  obtain ⟨h1, h2⟩ := grd_some h
  simp only [Bool.and_eq_true, decide_eq_true_eq] at h1
  refine ⟨0, (growSp_rn _ _ _).trans (Eq.trans ?_ (congrArg some h2))⟩
  show growSp_P 0 () n = some (([], ()), ((), (), ()))
  unfold growSp_P
  have e0 : IntKind.i64.wrap ((0 : Int) - ((0 : Nat) : Int)) = 0 := rfl
  have e1 : IntKind.i64.wrap (n - 0) = n := by rw [Int.sub_zero]; exact wrapI (by omega) (by omega)
  rw [e0, e1, br_df (by omega)]
  by_cases hn : n > 0
  · rw [br_dt hn, br_dt hn, br_dt (by unfold LIM; omega), br_dt (by unfold LIM; omega), br_dt (by simp; omega)]
    rfl
  · rw [br_df hn]
theorem v_concatSp : Valid Try.prog n_concatSp c_concatSp := by
  refine valid_fn mixed hf_concatSp (by kernel_rfl) rfl (ts := tmpsOf f_concatSp.results.toList) (by kernel_rfl) (cfg := cfgW g_concatSp) tt_ok (Γok_cons v_growSp Γok_nil) concatSp_tm c_concatSp (by kernel_rfl) (fun _ _ _ _ => ⟨⟩) ?_
  rintro ⟨(l : List (List Spn)), ⟨⟩⟩ r u h
  obtain ⟨h1, h2⟩ := grd_some h
  simp only [Bool.and_eq_true, decide_eq_true_eq, List.all_eq_true] at h1
  obtain ⟨g1, g2⟩ := h1
  refine ⟨6, (concatSp_rn _ _).trans (Eq.trans ?_ (congrArg some h2))⟩
  show concatSp_P 6 l = some ((l.flatten, ()), ((), ()))
  unfold concatSp_P
  have hsum : ∀ i, i ≤ l.length → (l.take i).flatten.length ≤ 200 * i := by
    intro i
    induction i with
    | zero => intro _; simp
    | succ i ih =>
      intro hi
      have hm := g2 _ (mem_getD (z := ([] : List Spn)) (show i < l.length by omega))
      have := ih (by omega)
      rw [take_snoc l i [] (by omega), List.flatten_append, List.length_append]
      simp only [List.flatten_cons, List.flatten_nil, List.append_nil]
      omega
  refine loopN_for (step := concatSp_L2 6) l.length (fun i => (l, (((l.take i).flatten.length : Nat) : Int), l, (l.length : Int), (i : Int), ())) (fun i hi rec => ?_) (fun rec => ?_) 6 (by omega)
  · simp only [concatSp_L2]
    rw [show ((i : Nat) : Int).toNat = i by omega]
    have hs := hsum (i + 1) (by omega)
    have hs0 := hsum i (by omega)
    have hm := g2 _ (mem_getD (z := ([] : List Spn)) (show i < l.length by omega))
    rw [take_snoc l i [] hi, List.flatten_append, List.length_append] at hs ⊢
    simp only [List.flatten_cons, List.flatten_nil, List.append_nil] at hs ⊢
    rw [br_dt (by omega), br_dt (by omega), br_dt (by omega), wrapI (n := (((l.take i).flatten.length : Nat) : Int) + ((List.length (l.getD i []) : Nat) : Int)) (by omega) (by omega), br_df (by omega), wrapI (n := (i : Int) + 1) (by omega) (by omega)]
    rfl
  · simp only [concatSp_L2]
    have hs0 := hsum l.length (Nat.le_refl _)
    rw [br_df (by omega), bd_grd (and_t (decide_eq_true (by omega)) (decide_eq_true (by omega)))]
    simp only
    refine loopN_for (step := concatSp_L1) l.length (fun i => ((l.take i).flatten, l, (l.length : Int), (i : Int), ())) (fun i hi rec => ?_) (fun rec => ?_) 6 (by omega)
    · simp only [concatSp_L1, Int.toNat_natCast]
      have hs0 := hsum i (by omega)
      have hm := g2 _ (mem_getD (z := ([] : List Spn)) (show i < l.length by omega))
      rw [br_dt (by omega), br_dt (by omega), br_dt (by omega), br_dt (by unfold LIM; omega), br_dt (by unfold LIM; omega), wrapI (n := (i : Int) + 1) (by omega) (by omega), take_snoc l i [] hi, List.flatten_append]
      simp only [List.flatten_cons, List.flatten_nil, List.append_nil]
      rfl
    · simp only [concatSp_L1]
      rw [br_df (by omega), List.take_length]
theorem v_spanRight : Valid Try.prog n_spanRight c_spanRight := by
  refine valid_fn mixed hf_spanRight (by kernel_rfl) rfl (ts := tmpsOf f_spanRight.results.toList) (by kernel_rfl) (cfg := cfgW g_spanRight) tt_ok Γok_nil spanRight_tm c_spanRight (by kernel_rfl) (fun _ _ _ _ => ⟨⟩) ?_
  rintro ⟨(s : Spn), ⟨⟩⟩ r u h
  refine ⟨0, (spanRight_rn _ _).trans (Eq.trans ?_ h)⟩
  show spanRight_P 0 s = some ((spanR s, ()), (), ())
  unfold spanRight_P spanR
  by_cases c1 : 0 ≤ s.1
  · rw [br_dt c1, decide_eq_true c1, Bool.true_and]
    by_cases c2 : s.1 < 4
    · rw [br_dt (by omega), decide_eq_true c2, Bool.true_and]
      by_cases c3 : 0 ≤ s.2.1
      · rw [br_dt c3, decide_eq_true c3, Bool.true_and]
        by_cases c4 : s.2.2 ≤ 65536
        · rw [br_dt c4, decide_eq_true c4, Bool.true_and]
        · rw [br_df c4, decide_eq_false c4]; rfl
      · rw [br_df c3, decide_eq_false c3]; rfl
    · rw [br_df (by omega), decide_eq_false c2]; rfl
  · rw [br_df c1, decide_eq_false c1]; rfl
theorem v_doBeyond : Valid Try.prog n_doBeyond c_doBeyond := by
  refine valid_fn mixed hf_doBeyond (by kernel_rfl) rfl (ts := tmpsOf f_doBeyond.results.toList) (by kernel_rfl) (cfg := cfgW g_doBeyond) tt_ok (Γok_cons v_spanRight Γok_nil) doBeyond_tm c_doBeyond (by kernel_rfl) (fun _ _ _ _ => ⟨⟩) ?_
  rintro ⟨(s : Spn), ⟨⟩⟩ r u h
  exact ⟨0, (doBeyond_rn _ _).trans h⟩
theorem idxS_ge : ∀ (l : List Spn) (n : Int), 0 ≤ n → (decide (idxS l n ≥ 0)) = beyond l
  | [], n, _ => rfl
  | s :: l, n, h => by
    unfold idxS beyond
    rw [List.any_cons]
    cases spanR s with
    | true =>
      have := idxS_ge l (n + 1) (by omega)
      rw [if_pos rfl, this]; rfl
    | false => rw [if_neg (by decide), decide_eq_true (by omega)]; rfl
theorem idxS_app : ∀ (l r : List Spn) (n : Int), (∀ s ∈ l, spanR s = true) → idxS (l ++ r) n = idxS r (n + l.length)
  | [], r, n, _ => by simp
  | s :: l, r, n, h => by
    show (if spanR s then idxS (l ++ r) (n + 1) else n) = _
    rw [h s List.mem_cons_self, if_pos rfl, idxS_app l r (n + 1) fun x hx => h x (List.mem_cons_of_mem _ hx)]
    simp only [List.length_cons]
    congr 1; omega
theorem v_indexSp : Valid Try.prog n_indexSp (c_indexSp n_doBeyond) := by
  refine valid_fn mixed hf_indexSp (by kernel_rfl) rfl (ts := tmpsOf f_indexSp.results.toList) (by kernel_rfl) (cfg := cfgW g_indexSp) tt_ok (Γok_cons v_doBeyond Γok_nil) indexSp_tm (c_indexSp n_doBeyond) (by kernel_rfl) (fun _ _ _ _ => ⟨⟩) ?_
  rintro ⟨(l : List Spn), ⟨⟩, ⟨⟩⟩ r u h
  obtain ⟨h1, h2⟩ := grd_some h
  have hl := lenOk_lt h1
  dsimp only at hl
  refine ⟨l.length + 1, (indexSp_rn _ l ()).trans (Eq.trans ?_ (congrArg some h2))⟩
  show loopN indexSp_L1 (l.length + 1) (l, (), (l.length : Int), ((0 : Nat) : Int), ()) = some ((idxS l 0, ()), ((), (), ()))
  refine loopN_meas (fun x => l.length - x.2.2.2.1.toNat) (fun x => ∃ i : Nat, i ≤ l.length ∧ x = (l, (), (l.length : Int), (i : Int), ()) ∧ ∀ s ∈ l.take i, spanR s = true) (fun _ => some ((idxS l 0, ()), ((), (), ()))) ?_ _ _ ⟨0, by omega, rfl, by simp⟩ (by simp)
  rintro x ⟨i, hi, rfl, ht⟩ rec hrec
  simp only [indexSp_L1, Int.toNat_natCast]
  by_cases h : i < l.length
  · rw [br_dt (by omega), br_dt (by omega), br_dt (by omega), wrapI (by omega) (by omega)]
    have ed : l.drop i = l.getD i (0, 0, 0) :: l.drop (i + 1) := by
      rw [List.drop_eq_getElem_cons h, List.getD_eq_getElem?_getD, List.getElem?_eq_getElem h]; rfl
    cases hs : spanR (l.getD i (0, 0, 0)) with
    | true =>
      refine hrec _ ⟨i + 1, by omega, rfl, fun s hm => ?_⟩ (by simp only; omega)
      rw [take_snoc l i (0, 0, 0) h] at hm
      rcases List.mem_append.1 hm with hm | hm
      · exact ht s hm
      · rw [List.mem_singleton.1 hm]; exact hs
    | false =>
      have e := idxS_app (l.take i) (l.drop i) 0 ht
      rw [List.take_append_drop, ed] at e
      have e2 : idxS (l.getD i (0, 0, 0) :: l.drop (i + 1)) (0 + ((l.take i).length : Nat)) = (i : Int) := by
        show (if spanR (l.getD i (0, 0, 0)) then _ else _) = _
        rw [hs, if_neg (by decide), List.length_take]; omega
      rw [e, e2]
      rfl
  · rw [br_df (by omega)]
    have e := idxS_app (l.take i) [] 0 ht
    rw [List.append_nil, List.take_of_length_le (by omega)] at e
    rw [e]
    rfl
theorem v_containsSp : Valid Try.prog n_containsSp (c_containsSp n_doBeyond) := by
  refine valid_fn mixed hf_containsSp (by kernel_rfl) rfl (ts := tmpsOf f_containsSp.results.toList) (by kernel_rfl) (cfg := cfgW g_containsSp) tt_ok (Γok_cons v_indexSp Γok_nil) containsSp_tm (c_containsSp n_doBeyond) (by kernel_rfl) (fun _ _ _ _ => ⟨⟩) ?_
  rintro ⟨(l : List Spn), ⟨⟩, ⟨⟩⟩ r u h
  obtain ⟨h1, h2⟩ := grd_some h
  refine ⟨0, (containsSp_rn _ l ()).trans (Eq.trans ?_ (congrArg some h2))⟩
  show bd (grd (lenOk l) _) _ = some ((beyond l, ()), ((), (), ()))
  rw [bd_grd h1]
  show some ((decide (idxS l 0 ≥ 0), ()), (), (), ()) = _
  rw [idxS_ge l 0 (by omega)]
theorem not16 {n : Int} (h0 : 0 ≤ n) (h1 : n ≤ 65535) : ~~~BitVec.ofInt 16 n = BitVec.ofInt 16 (IntKind.u16.wrap (65535 - n)) := by
  rw [wrapW (by omega) (by omega)]
  apply BitVec.eq_of_toNat_eq
  rw [BitVec.toNat_not, BitVec.toNat_ofInt, BitVec.toNat_ofInt]
  have e1 : n % ((2 ^ 16 : Nat) : Int) = n := Int.emod_eq_of_lt h0 (by omega)
  have e2 : (65535 - n) % ((2 ^ 16 : Nat) : Int) = 65535 - n := Int.emod_eq_of_lt (by omega) (by omega)
  rw [e1, e2]
  omega
theorem maskN_eq (was : Int) {an : Int} (o : Int) (h0 : 0 ≤ an) (h1 : an ≤ 65535) :
    IntKind.u16.wrap (((BitVec.ofInt 16 (IntKind.u16.wrap (((BitVec.ofInt 16 was &&& BitVec.ofInt 16 an).toNat : Nat) : Int)) ||| BitVec.ofInt 16 (IntKind.u16.wrap (((BitVec.ofInt 16 o &&& ~~~BitVec.ofInt 16 an).toNat : Nat) : Int))).toNat : Nat) : Int) = maskN was an o := by
  rw [not16 h0 h1]; rfl
theorem askOk_isW {a : AskT} (h : askW a = true) : (0 ≤ aVal a ∧ aVal a ≤ 65535) ∧ (0 ≤ aAnd a ∧ aAnd a ≤ 65535) ∧ (0 ≤ aOr a ∧ aOr a ≤ 65535) := by
  unfold askW at h
  simp only [Bool.and_eq_true, isW_iff] at h
  exact h
theorem v_execCells : Valid Try.prog n_execCells c_execCells := by
  refine valid_fnc mixed hf_execCells (by kernel_rfl) rfl (cfg := cfgW g_execCells) tt_ok (Γok_cons v_askRight (Γok_cons v_writes (Γok_cons v_table (Γok_cons v_lay Γok_nil)))) execCells_tm c_execCells (by kernel_rfl) (fun _ _ _ _ => ⟨⟩) ?_
  rintro ⟨(a : AskT), (was : Int), ⟨⟩⟩ r u h
  obtain ⟨h1, h2⟩ := grd_some h
  obtain ⟨g0, g3⟩ := Bool.and_eq_true_iff.1 (show (askLen a && askW a) = true from h1)
  unfold askLen at g0
  simp only [Bool.and_eq_true] at g0
  obtain ⟨g1, g2⟩ := g0
  have k1 := lenOk_lt g1
  have k2 := lenOk_lt g2
  refine ⟨(aBits a).length + 1, (execCells_rn _ _ _).trans (Eq.trans ?_ (congrArg some h2))⟩
  show bd (grd (askW a) ((askOk a, ()), (), ())) _ = some ((cellsA a was, ()), ((), (), ()))
  rw [bd_grd g3]
  unfold cellsA
  cases hk : askOk a with
  | false => rfl
  | true =>
    obtain ⟨q1, q2, q3, q4, q5, q6⟩ := askOk_at hk
    obtain ⟨w1, w2, w3⟩ := askOk_isW g3
    obtain ⟨f, at1, n, v, an, o, bs, ws, ra, rn, c, ob⟩ := a
    dsimp only [aBits, aWords, aAnd] at g1 g2 k1 k2 q1 q2 q3 w2 ⊢
    have hat : ∀ l : List Int, lenOk l = true → (lenOk l && (decide ((-9223372036854775808 : Int) ≤ at1) && decide (at1 ≤ (9223372036853775807 : Int)))) = true := fun l hl => and_t hl (and_t (decide_eq_true (by omega)) (decide_eq_true (by omega)))
    rcases (known_iff f).1 q1 with rfl | rfl | rfl | rfl | rfl | rfl | rfl | rfl | rfl | rfl | rfl
    · rfl
    · rfl
    · rfl
    · rfl
    · show bd (grd _ _) _ = _
      rw [bd_grd (hat _ rfl)]; rfl
    · show bd (grd _ _) _ = _
      rw [bd_grd (hat _ rfl)]; rfl
    · show loopN execCells_L1 _ _ = _
      refine loopN_for (step := execCells_L1) bs.length (fun i => ((15, at1, n, v, an, o, bs, ws, ra, rn, c, ob, ()), (bs.take i).map bitN, bs, (bs.length : Int), (i : Int), ())) (fun i hi rec => ?_) (fun rec => ?_) (bs.length + 1) (by omega)
      · simp only [execCells_L1, Int.toNat_natCast]
        have e : ((bs.take i).map bitN).length = i := by rw [List.length_map, List.length_take]; omega
        rw [br_dt (by omega), br_dt (by omega), br_dt (by omega), wrapI (by omega) (by omega), take_snoc bs i false hi, List.map_append]
        cases bs.getD i false with
        | true =>
          rw [br_t rfl, br_dt (by rw [e]; simp only [List.length_singleton, LIM]; omega), br_dt (by rw [e]; simp only [List.length_singleton, LIM]; omega)]
          rfl
        | false =>
          rw [br_f rfl, br_dt (by rw [e]; simp only [List.length_singleton, LIM]; omega), br_dt (by rw [e]; simp only [List.length_singleton, LIM]; omega)]
          rfl
      · simp only [execCells_L1]
        rw [br_df (by omega), List.take_length, bd_grd (hat _ (lenOk_of (by rw [List.length_map]; omega)))]
        rfl
    · show bd (grd _ _) _ = _
      rw [bd_grd (hat _ g2)]; rfl
    · show bd (grd (lenOk [_] && _) ((layFrom _ _ [_], ()), _)) _ = _
      rw [maskN_eq was o w2.1 w2.2]
      rw [bd_grd (hat _ rfl)]; rfl
    · show bd (grd _ _) _ = _
      rw [bd_grd (hat _ g2)]; rfl
    · rfl
theorem toldRead_L2_eq : toldRead_L2 = toldRead_L1 := by kernel_rfl
theorem v_toldRead : Valid Try.prog n_toldRead c_toldRead := by
  refine valid_fnc mixed hf_toldRead (by kernel_rfl) rfl (cfg := cfgW g_toldRead) tt_ok (Γok_cons v_cloneWords Γok_nil) toldRead_tm c_toldRead (by kernel_rfl) (fun _ _ _ _ => ⟨⟩) ?_
  rintro ⟨(f : Int), (l : List Int), ⟨⟩⟩ r u h
  obtain ⟨h1, h2⟩ := grd_some h
  have hl := lenOk_lt h1
  dsimp only at hl
  refine ⟨l.length + 1, (toldRead_rn _ _ _).trans (Eq.trans ?_ (congrArg some h2))⟩
  show toldRead_P (l.length + 1) f l = some ((shownT f l, ()), ((), (), ()))
  have hloop1 : loopN toldRead_L1 (l.length + 1) ((0, 0, (), (), 0, 0, 0, 0, 0, 0, 0, false, 0, (), ()), (f, 0, [], (), 0, 0, 0, 0, 0, 0, 0, false, 0, (), ()), l, (l.length : Int), 0, ()) = some (((f, 0, l.map (fun v => v != 0), [], 0, 0, 0, 0, 0, 0, 0, false, 0, []), ()), (), (), ()) := by
    refine loopN_for (step := toldRead_L1) l.length (fun i => ((0, 0, (), (), 0, 0, 0, 0, 0, 0, 0, false, 0, (), ()), (f, 0, (l.take i).map (fun v => v != 0), (), 0, 0, 0, 0, 0, 0, 0, false, 0, (), ()), l, (l.length : Int), (i : Int), ())) (fun i hi rec => ?_) (fun rec => ?_) (l.length + 1) (by omega)
    · simp only [toldRead_L1, Int.toNat_natCast]
      have e : ((l.take i).map (fun v => v != 0)).length = i := by rw [List.length_map, List.length_take]; omega
      rw [br_dt (by omega), br_dt (by omega), br_dt (by omega), br_dt (by rw [e]; simp only [List.length_singleton, LIM]; omega), br_dt (by rw [e]; simp only [List.length_singleton, LIM]; omega), wrapI (by omega) (by omega)]
      rw [take_snoc l i 0 hi, List.map_append]
      rfl
    · simp only [toldRead_L1]
      rw [br_df (by omega), List.take_length]
  unfold toldRead_P shownT
  rw [toldRead_L2_eq]
  by_cases f1 : f = 1
  · rw [br_t (by rw [f1]; rfl), if_pos (.inl f1)]
    exact hloop1
  · rw [br_f (by simpa using f1)]
    by_cases f2 : f = 2
    · rw [br_t (by rw [f2]; rfl), if_pos (.inr f2)]
      exact hloop1
    · rw [br_f (by simpa using f2), bd_grd (decide_eq_true hl), if_neg (by rintro (h | h); exact f1 h; exact f2 h)]
theorem v_fvalues : Valid Try.prog n_fvalues c_fvalues := by
  refine valid_fn mixed hf_fvalues (by kernel_rfl) rfl (ts := tmpsOf f_fvalues.results.toList) (by kernel_rfl) (cfg := cfgW g_fvalues) tt_ok (Γok_cons v_fget Γok_nil) fvalues_tm c_fvalues (by kernel_rfl) (fun _ _ _ _ => ⟨⟩) ?_
  rintro ⟨(⟨m, ⟨⟩⟩ : Regs × Unit), (s : Spn), ⟨⟩⟩ r u h
  obtain ⟨h1, h2⟩ := grd_some h
  obtain ⟨c1, c2, c3, c4, c5⟩ := spanR_iff.1 (show spanR s = true from h1)
  refine ⟨65537, (fvalues_rn _ _ _).trans (Eq.trans ?_ (congrArg some h2))⟩
  show fvalues_P 65537 (m, ()) s = some ((valsF m s, ()), ((m, ()), (), ()))
  unfold fvalues_P
  rw [wrapI (n := s.2.2 - s.2.1) (by omega) (by omega), br_dt (by omega), br_dt (by unfold LIM; omega), br_dt (by unfold LIM; omega)]
  have := loopN_for (step := fvalues_L1) (s.2.2 - s.2.1).toNat (fun i => ((m, ()), (s.1, s.2.1, s.2.2, ()), (List.range i).map (fun (j : Nat) => getF m (s.1, s.2.1 + (j : Int))), s.2.1 + (i : Int), ())) (res := some ((valsF m s, ()), ((m, ()), (), ()))) (fun i hi rec => ?_) (fun rec => ?_) 65537 (by omega)
  · have e : s.2.1 + ((0 : Nat) : Int) = s.2.1 := by omega
    simpa [e] using this
  · have e : ((List.range i).map (fun (j : Nat) => getF m (s.1, s.2.1 + (j : Int)))).length = i := by simp
    simp only [fvalues_L1]
    rw [br_dt (by omega), br_dt (by rw [e]; simp only [List.length_singleton, LIM]; omega), br_dt (by rw [e]; simp only [List.length_singleton, LIM]; omega), wrapI (by omega) (by omega)]
    have e2 : (List.range (i + 1)).map (fun (j : Nat) => getF m (s.1, s.2.1 + (j : Int))) = cat ((List.range i).map (fun (j : Nat) => getF m (s.1, s.2.1 + (j : Int)))) [getF m (s.1, s.2.1 + (i : Int))] := by
      rw [List.range_succ, List.map_append]; rfl
    rw [e2, show s.2.1 + ((i + 1 : Nat) : Int) = s.2.1 + (i : Int) + 1 by push_cast; omega]
  · simp only [fvalues_L1]
    rw [br_df (by omega)]
    rfl
abbrev DoFRes := Option ((TellT × Bool × Unit) × (Regs × Unit) × Unit × Unit)
theorem v_fdo : Valid Try.prog n_fdo c_fdo := by
  refine valid_fnc mixed hf_fdo (by kernel_rfl) rfl (cfg := cfgW g_fdo) tt_ok (Γok_cons v_askSpans (Γok_cons v_concatSp (Γok_cons v_containsSp (Γok_cons v_fget (Γok_cons v_execCells (Γok_cons v_fset (Γok_cons v_fvalues (Γok_cons v_toldRead (Γok_cons v_tellEcho Γok_nil))))))))) fdo_tm c_fdo (by kernel_rfl) (fun _ _ _ _ => ⟨⟩) ?_
  rintro ⟨(⟨m, ⟨⟩⟩ : Regs × Unit), (a : AskT), ⟨⟩⟩ r u h
  obtain ⟨h1, h2⟩ := grd_some h
  obtain ⟨g0, g3⟩ := Bool.and_eq_true_iff.1 (show (askLen a && askW a) = true from h1)
  have g1 := g0
  unfold askLen at g1
  simp only [Bool.and_eq_true] at g1
  have k1 := lenOk_lt g1.1
  have k2 := lenOk_lt g1.2
  refine ⟨0, (fdo_rn _ _ _).trans (Eq.trans ?_ (congrArg some h2))⟩
  show fdo_P 0 (m, ()) a = (some (((doF m a).1.1, (doF m a).1.2, ()), ((doF m a).2, ()), (), ()) : DoFRes)
  unfold fdo_P
  simp only [askEta]
  rw [bd_grd g3]
  simp only
  have hsp : ((spansA a).1 = [] ∨ ∃ s, (spansA a).1 = [s]) ∧ ((spansA a).2 = [] ∨ ∃ s, (spansA a).2 = [s]) := by
    cases hk : askOk a with
    | false =>
      have e : spansA a = ([], []) := by unfold spansA; rw [if_pos hk]
      rw [e]; exact ⟨.inl rfl, .inl rfl⟩
    | true =>
      rcases spansA_ok hk with e | ⟨s, t, e, _⟩ | ⟨t, e⟩ | ⟨s, e, _⟩ <;> rw [e]
      · exact ⟨.inl rfl, .inl rfl⟩
      · exact ⟨.inr ⟨s, rfl⟩, .inr ⟨t, rfl⟩⟩
      · exact ⟨.inl rfl, .inr ⟨t, rfl⟩⟩
      · exact ⟨.inr ⟨s, rfl⟩, .inl rfl⟩
  have hl1 : (spansA a).1.length ≤ 1 := by rcases hsp.1 with e | ⟨s, e⟩ <;> rw [e] <;> simp
  have hl2 : (spansA a).2.length ≤ 1 := by rcases hsp.2 with e | ⟨s, e⟩ <;> rw [e] <;> simp
  rw [bd_grd (and_t rfl (and_t (decide_eq_true (by omega)) (and_t (decide_eq_true (by omega)) rfl)))]
  simp only
  have ecat : (spansA a).1.append ((spansA a).2.append []) = (spansA a).1 ++ (spansA a).2 := by
    show (spansA a).1 ++ ((spansA a).2 ++ []) = _
    rw [List.append_nil]
  rw [ecat]
  unfold doF
  by_cases hn : ((spansA a).1 ++ (spansA a).2).length = 0
  · rw [br_t (by rw [hn]; rfl), if_pos (.inl hn)]
    rfl
  · have hlen : ((spansA a).1 ++ (spansA a).2).length ≤ 2 := by rw [List.length_append]; omega
    rw [br_f (beq_eq_false_iff_ne.2 (by omega)), bd_grd (lenOk_of (by omega))]
    simp only
    cases hb : beyond ((spansA a).1 ++ (spansA a).2) with
    | true => rw [br_t rfl, if_pos (.inr rfl)]; rfl
    | false =>
      rw [br_f rfl, if_neg (by rintro (h | h); exact hn h; cases h), bd_grd (and_t g0 g3)]
      simp only
      have hc := cellsA_len a (getF m (2, a.2.1))
      rw [bd_grd (lenOk_of (by omega))]
      simp only
      rcases hsp.1 with e | ⟨s, e⟩
      · rw [e, br_df (by simp), bd_grd g3]
      · have hs : spanR s = true := by
          rw [e] at hb
          unfold beyond at hb
          simp only [List.singleton_append, List.any_cons, Bool.or_eq_false_iff] at hb
          simpa using hb.1
        obtain ⟨c1, c2, c3, c4, c5⟩ := spanR_iff.1 hs
        rw [e, br_dt (by simp), br_dt (by simp)]
        have eg : ([s] : List Spn).getD (Int.toNat 0) (0, 0, 0) = s := rfl
        rw [eg]
        refine (congrArg (fun z => bd z _) (grd_t (v := ((valsF (setF m (cellsA a (getF m (2, aAt a)))) s, ()), (setF m (cellsA a (getF m (2, aAt a))), ()), (), ())) hs)).trans ?_
        show bd (grd (lenOk (valsF (setF m (cellsA a (getF m (2, aAt a)))) s)) _) _ = _
        have hv : (valsF (setF m (cellsA a (getF m (2, aAt a)))) s).length = (s.2.2 - s.2.1).toNat := by simp [valsF]
        rw [bd_grd (lenOk_of (by omega))]
end Go.BB
set_option linter.unusedVariables false
namespace Go.BB
open Go Go.Proofs
set_option maxRecDepth 100000
set_option exponentiation.threshold 100000
noncomputable section
abbrev g_sameTell : List (Nat × Ctr O0) := [(n_r5sameBits, c_r5sameBits), (n_r5sameWords, c_r5sameWords)]
def sameTell_tm : List Tm := [[((2 : Nat), none, ((Sh.val (Ty.int IntKind.i64)).cons ((Sh.val (Ty.int IntKind.i64)).cons ((Sh.val Ty.bool.slice).cons ((Sh.val (Ty.int IntKind.u16).slice).cons ((Sh.val (Ty.int IntKind.i64)).cons ((Sh.val (Ty.int IntKind.i64)).cons ((Sh.val (Ty.int IntKind.u16)).cons ((Sh.val (Ty.int IntKind.u16)).cons ((Sh.val (Ty.int IntKind.u16)).cons ((Sh.val (Ty.int IntKind.i64)).cons ((Sh.val (Ty.int IntKind.i64)).cons ((Sh.val Ty.bool).cons ((Sh.val (Ty.int IntKind.i64)).cons ((Sh.val ((Ty.int IntKind.i64).pair Ty.str).slice).cons Sh.unit)))))))))))))).ptr), ((3 : Nat), none, ((Sh.val (Ty.int IntKind.i64)).cons ((Sh.val (Ty.int IntKind.i64)).cons ((Sh.val Ty.bool.slice).cons ((Sh.val (Ty.int IntKind.u16).slice).cons ((Sh.val (Ty.int IntKind.i64)).cons ((Sh.val (Ty.int IntKind.i64)).cons ((Sh.val (Ty.int IntKind.u16)).cons ((Sh.val (Ty.int IntKind.u16)).cons ((Sh.val (Ty.int IntKind.u16)).cons ((Sh.val (Ty.int IntKind.i64)).cons ((Sh.val (Ty.int IntKind.i64)).cons ((Sh.val Ty.bool).cons ((Sh.val (Ty.int IntKind.i64)).cons ((Sh.val ((Ty.int IntKind.i64).pair Ty.str).slice).cons Sh.unit)))))))))))))).ptr), ((5 : Nat), none, Sh.val (Ty.int IntKind.i64))]]
def sameTell_L1 (rec1 : (Int × Int × List Bool × List Int × Int × Int × Int × Int × Int × Int × Int × Bool × Int × List (Int × ByteArray) × Unit) × (Int × Int × List Bool × List Int × Int × Int × Int × Int × Int × Int × Int × Bool × Int × List (Int × ByteArray) × Unit) × Int × Unit → Option ((Bool × Unit) × Unit × Unit × Unit)) : (Int × Int × List Bool × List Int × Int × Int × Int × Int × Int × Int × Int × Bool × Int × List (Int × ByteArray) × Unit) × (Int × Int × List Bool × List Int × Int × Int × Int × Int × Int × Int × Int × Bool × Int × List (Int × ByteArray) × Unit) × Int × Unit → Option ((Bool × Unit) × Unit × Unit × Unit) := fun (y3, y4, y5, ()) => br (decide (y5 < (↑y3.2.2.2.2.2.2.2.2.2.2.2.2.2.1.length : Int))) (br (decide ((0 : Int) ≤ y5)) (br (decide (y5 < (↑y3.2.2.2.2.2.2.2.2.2.2.2.2.2.1.length : Int))) (br (decide ((0 : Int) ≤ y5)) (br (decide (y5 < (↑y4.2.2.2.2.2.2.2.2.2.2.2.2.2.1.length : Int))) (br (!((y3.2.2.2.2.2.2.2.2.2.2.2.2.2.1.getD y5.toNat ((0 : Int), ByteArray.empty)).1 == (y4.2.2.2.2.2.2.2.2.2.2.2.2.2.1.getD y5.toNat ((0 : Int), ByteArray.empty)).1 && ByteArray.toList (y3.2.2.2.2.2.2.2.2.2.2.2.2.2.1.getD y5.toNat ((0 : Int), ByteArray.empty)).2 == ByteArray.toList (y4.2.2.2.2.2.2.2.2.2.2.2.2.2.1.getD y5.toNat ((0 : Int), ByteArray.empty)).2)) (some ((false, ()), (), (), ())) (rec1 ((y3.1, y3.2.1, y3.2.2.1, y3.2.2.2.1, y3.2.2.2.2.1, y3.2.2.2.2.2.1, y3.2.2.2.2.2.2.1, y3.2.2.2.2.2.2.2.1, y3.2.2.2.2.2.2.2.2.1, y3.2.2.2.2.2.2.2.2.2.1, y3.2.2.2.2.2.2.2.2.2.2.1, y3.2.2.2.2.2.2.2.2.2.2.2.1, y3.2.2.2.2.2.2.2.2.2.2.2.2.1, y3.2.2.2.2.2.2.2.2.2.2.2.2.2.1, ()), (y4.1, y4.2.1, y4.2.2.1, y4.2.2.2.1, y4.2.2.2.2.1, y4.2.2.2.2.2.1, y4.2.2.2.2.2.2.1, y4.2.2.2.2.2.2.2.1, y4.2.2.2.2.2.2.2.2.1, y4.2.2.2.2.2.2.2.2.2.1, y4.2.2.2.2.2.2.2.2.2.2.1, y4.2.2.2.2.2.2.2.2.2.2.2.1, y4.2.2.2.2.2.2.2.2.2.2.2.2.1, y4.2.2.2.2.2.2.2.2.2.2.2.2.2.1, ()), IntKind.i64.wrap (y5 + (1 : Int)), ()))) none) none) none) none) (br (y3.1 == y4.1) (br (y3.2.1 == y4.2.1) (bd (grd (lenOk y3.2.2.1) ((sameS y3.2.2.1 y4.2.2.1, ()), (), (), ())) fun (x6 : (Bool × Unit) × Unit × Unit × Unit) => br x6.1.1 (bd (grd (lenOk y3.2.2.2.1) ((sameS y3.2.2.2.1 y4.2.2.2.1, ()), (), (), ())) fun (x7 : (Bool × Unit) × Unit × Unit × Unit) => br x7.1.1 (br (y3.2.2.2.2.1 == y4.2.2.2.2.1) (br (y3.2.2.2.2.2.1 == y4.2.2.2.2.2.1) (br (y3.2.2.2.2.2.2.1 == y4.2.2.2.2.2.2.1) (br (y3.2.2.2.2.2.2.2.1 == y4.2.2.2.2.2.2.2.1) (br (y3.2.2.2.2.2.2.2.2.1 == y4.2.2.2.2.2.2.2.2.1) (br (y3.2.2.2.2.2.2.2.2.2.1 == y4.2.2.2.2.2.2.2.2.2.1) (br (y3.2.2.2.2.2.2.2.2.2.2.1 == y4.2.2.2.2.2.2.2.2.2.2.1) (br (y3.2.2.2.2.2.2.2.2.2.2.2.1 == y4.2.2.2.2.2.2.2.2.2.2.2.1) (some ((y3.2.2.2.2.2.2.2.2.2.2.2.2.1 == y4.2.2.2.2.2.2.2.2.2.2.2.2.1, ()), (), (), ())) (some ((false, ()), (), (), ()))) (some ((false, ()), (), (), ()))) (some ((false, ()), (), (), ()))) (some ((false, ()), (), (), ()))) (some ((false, ()), (), (), ()))) (some ((false, ()), (), (), ()))) (some ((false, ()), (), (), ()))) (some ((false, ()), (), (), ())))
 (some ((false, ()), (), (), ()))) (some ((false, ()), (), (), ()))) (some ((false, ()), (), (), ()))) (some ((false, ()), (), (), ())))
def sameTell_P (K : Nat) (a0 : TellT) (a1 : TellT) : Option ((Bool × Unit) × Unit × Unit × Unit) := br ((↑a0.2.2.2.2.2.2.2.2.2.2.2.2.2.length : Int) != (↑a1.2.2.2.2.2.2.2.2.2.2.2.2.2.length : Int)) (some ((false, ()), (), (), ())) (loopN sameTell_L1 K ((a0.1, a0.2.1, a0.2.2.1, a0.2.2.2.1, a0.2.2.2.2.1, a0.2.2.2.2.2.1, a0.2.2.2.2.2.2.1, a0.2.2.2.2.2.2.2.1, a0.2.2.2.2.2.2.2.2.1, a0.2.2.2.2.2.2.2.2.2.1, a0.2.2.2.2.2.2.2.2.2.2.1, a0.2.2.2.2.2.2.2.2.2.2.2.1, a0.2.2.2.2.2.2.2.2.2.2.2.2.1, a0.2.2.2.2.2.2.2.2.2.2.2.2.2, ()), (a1.1, a1.2.1, a1.2.2.1, a1.2.2.2.1, a1.2.2.2.2.1, a1.2.2.2.2.2.1, a1.2.2.2.2.2.2.1, a1.2.2.2.2.2.2.2.1, a1.2.2.2.2.2.2.2.2.1, a1.2.2.2.2.2.2.2.2.2.1, a1.2.2.2.2.2.2.2.2.2.2.1, a1.2.2.2.2.2.2.2.2.2.2.2.1, a1.2.2.2.2.2.2.2.2.2.2.2.2.1, a1.2.2.2.2.2.2.2.2.2.2.2.2.2, ()), (0 : Int), ()))
theorem sameTell_rn (K : Nat) (a0 : TellT) (a1 : TellT) : runF (cfgW g_sameTell) K f_sameTell sameTell_tm [.val tTell, .val tTell] [.val .bool] (a0, a1, ()) = sameTell_P K a0 a1 := by kernel_rfl
end
end Go.BB
set_option linter.unusedVariables false
namespace Go.BB
open Go Go.Proofs
set_option maxRecDepth 100000
set_option exponentiation.threshold 100000
noncomputable section
end
end Go.BB
set_option linter.unusedVariables false
namespace Go.BB
open Go Go.Proofs
set_option maxRecDepth 100000
set_option exponentiation.threshold 100000
noncomputable section
abbrev g_r5sameBits : List (Nat × Ctr O0) := []
def r5sameBits_tm : List Tm := [[((0 : Nat), none, Sh.val Ty.bool.slice), ((1 : Nat), none, Sh.val Ty.bool.slice), ((5 : Nat), none, Sh.val (Ty.int IntKind.i64))]]
def r5sameBits_L1 (rec1 : List Bool × List Bool × Int × Unit → Option ((Bool × Unit) × Unit × Unit × Unit)) : List Bool × List Bool × Int × Unit → Option ((Bool × Unit) × Unit × Unit × Unit) := fun (y3, y4, y5, ()) => br (decide (y5 < (↑y3.length : Int))) (br (decide ((0 : Int) ≤ y5)) (br (decide (y5 < (↑y3.length : Int))) (br (decide ((0 : Int) ≤ y5)) (br (decide (y5 < (↑y4.length : Int))) (br (!y3.getD y5.toNat false == y4.getD y5.toNat false) (some ((false, ()), (), (), ())) (rec1 (y3, y4, IntKind.i64.wrap (y5 + (1 : Int)), ()))) none) none) none) none) (some ((true, ()), (), (), ()))
def r5sameBits_P (K : Nat) (a0 : List Bool) (a1 : List Bool) : Option ((Bool × Unit) × Unit × Unit × Unit) := br ((↑a0.length : Int) != (↑a1.length : Int)) (some ((false, ()), (), (), ())) (loopN r5sameBits_L1 K (a0, a1, (0 : Int), ()))
theorem r5sameBits_rn (K : Nat) (a0 : List Bool) (a1 : List Bool) : runF (cfgW g_r5sameBits) K f_r5sameBits r5sameBits_tm [.val (.slice .bool), .val (.slice .bool)] [.val .bool] (a0, a1, ()) = r5sameBits_P K a0 a1 := by kernel_rfl
abbrev g_r5sameWords : List (Nat × Ctr O0) := []
def r5sameWords_tm : List Tm := [[((0 : Nat), none, Sh.val (Ty.int IntKind.u16).slice), ((1 : Nat), none, Sh.val (Ty.int IntKind.u16).slice), ((5 : Nat), none, Sh.val (Ty.int IntKind.i64))]]
def r5sameWords_L1 (rec1 : List Int × List Int × Int × Unit → Option ((Bool × Unit) × Unit × Unit × Unit)) : List Int × List Int × Int × Unit → Option ((Bool × Unit) × Unit × Unit × Unit) := fun (y3, y4, y5, ()) => br (decide (y5 < (↑y3.length : Int))) (br (decide ((0 : Int) ≤ y5)) (br (decide (y5 < (↑y3.length : Int))) (br (decide ((0 : Int) ≤ y5)) (br (decide (y5 < (↑y4.length : Int))) (br (y3.getD y5.toNat (0 : Int) != y4.getD y5.toNat (0 : Int)) (some ((false, ()), (), (), ())) (rec1 (y3, y4, IntKind.i64.wrap (y5 + (1 : Int)), ()))) none) none) none) none) (some ((true, ()), (), (), ()))
def r5sameWords_P (K : Nat) (a0 : List Int) (a1 : List Int) : Option ((Bool × Unit) × Unit × Unit × Unit) := br ((↑a0.length : Int) != (↑a1.length : Int)) (some ((false, ()), (), (), ())) (loopN r5sameWords_L1 K (a0, a1, (0 : Int), ()))
theorem r5sameWords_rn (K : Nat) (a0 : List Int) (a1 : List Int) : runF (cfgW g_r5sameWords) K f_r5sameWords r5sameWords_tm [.val (.slice tW), .val (.slice tW)] [.val .bool] (a0, a1, ()) = r5sameWords_P K a0 a1 := by kernel_rfl
end
end Go.BB
set_option linter.unusedSimpArgs false
set_option linter.unusedVariables false
/-! plain lemmas: what was put in order rises -/
namespace Go.BB
open Go
/-! marks -/
end Go.BB
set_option linter.unusedSimpArgs false
set_option linter.unusedVariables false
namespace Go.BB
open Go Go.Proofs
set_option maxRecDepth 100000
theorem v_r5sameBits : Valid Try.prog n_r5sameBits c_r5sameBits := by
  refine valid_fn mixed hf_r5sameBits (by kernel_rfl) rfl (ts := tmpsOf f_r5sameBits.results.toList) (by kernel_rfl) (cfg := cfgW g_r5sameBits) tt_ok Γok_nil r5sameBits_tm c_r5sameBits (by kernel_rfl) (fun _ _ _ _ => ⟨⟩) ?_
  rintro ⟨(a : List Bool), (b : List Bool), ⟨⟩⟩ r u h
  obtain ⟨h1, h2⟩ := grd_some h
  simp only at h1 h2
  refine ⟨a.length + 1, (r5sameBits_rn _ a b).trans (Eq.trans ?_ (congrArg some h2))⟩
  have hl : a.length < 1000000 := lenOk_lt h1
  unfold r5sameBits_P
  by_cases hab : a.length = b.length
  · rw [br_f (by simp [hab])]
    exact same_loop false (fun a b => a == b) (fun a b => by cases a <;> cases b <;> rfl) a b hab (fun _ _ _ _ => rfl) (by omega) _ (by omega)
  · rw [br_t (by simp; omega)]
    have : sameS a b = false := by
      simp only [sameS, decide_eq_false_iff_not]
      intro e; exact hab (congrArg List.length e)
    rw [this]
    rfl
theorem v_r5sameWords : Valid Try.prog n_r5sameWords c_r5sameWords := by
  refine valid_fn mixed hf_r5sameWords (by kernel_rfl) rfl (ts := tmpsOf f_r5sameWords.results.toList) (by kernel_rfl) (cfg := cfgW g_r5sameWords) tt_ok Γok_nil r5sameWords_tm c_r5sameWords (by kernel_rfl) (fun _ _ _ _ => ⟨⟩) ?_
  rintro ⟨(a : List Int), (b : List Int), ⟨⟩⟩ r u h
  obtain ⟨h1, h2⟩ := grd_some h
  simp only at h1 h2
  refine ⟨a.length + 1, (r5sameWords_rn _ a b).trans (Eq.trans ?_ (congrArg some h2))⟩
  have hl : a.length < 1000000 := lenOk_lt h1
  unfold r5sameWords_P
  by_cases hab : a.length = b.length
  · rw [br_f (by simp [hab])]
    exact same_loop (0 : Int) (fun a b => a == b) (fun a b => by by_cases h : a = b <;> simp [h]) a b hab (fun _ _ _ _ => rfl) (by omega) _ (by omega)
  · rw [br_t (by simp; omega)]
    have : sameS a b = false := by
      simp only [sameS, decide_eq_false_iff_not]
      intro e; exact hab (congrArg List.length e)
    rw [this]
    rfl
end Go.BB
