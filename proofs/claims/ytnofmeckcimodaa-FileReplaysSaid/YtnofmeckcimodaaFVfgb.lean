/- A symbolic machine for the model's code, and what it shows of this seat's functions. No conditions. -/
import Derived.Test.YtnofmeckcimodaaFGfed
import Derived.Test.YtnofmeckcimodaaFGfea
import Derived.Test.YtnofmeckcimodaaFVfea
import Derived.Test.YtnofmeckcimodaaFLFile2
import Derived.Test.YtnofmeckcimodaaFVfdo2
import Derived.Test.YtnofmeckcimodaaFGfgb
set_option linter.unusedSimpArgs false
set_option linter.unusedVariables false
namespace Go.BB
open Go Go.Proofs
set_option maxRecDepth 100000
theorem v_growSp : Valid Try.prog n_growSp c_growSp := by
 refine valid_fn mixed hf_growSp (by kernel_rfl) rfl (ts := tmpsOf f_growSp.results.toList) (by kernel_rfl) (cfg := cfgW g_growSp) tt_ok Γok_nil growSp_tm c_growSp (by kernel_rfl) (fun _ _ _ _ => ⟨⟩) ?_
 rintro ⟨⟨⟩, (n : Int), ⟨⟩⟩ r u h
 obtain ⟨h1, h2⟩ := grd_some h
 simp only [Bool.and_eq_true, decide_eq_true_eq] at h1
 refine ⟨0, (growSp_rn _ _ _).trans (Eq.trans ?_ (congrArg some h2))⟩
 show growSp_P 0 () n = some (([], ()), ((), (), ()))
 unfold growSp_P
 have e0 : IntKind.i64.wrap ((0 : Int) - ((0 : Nat) : Int)) = 0 := rfl
 have e1 : IntKind.i64.wrap (n - 0) = n := by rw [Int.sub_zero]; exact wrapI (by omega) (by omega)
 rw [e0, e1, br_df (by omega)]
 by_cases hn : n > 0
 ·rw [br_dt hn, br_dt hn, br_dt (by unfold LIM; omega), br_dt (by unfold LIM; omega), br_dt (by simp; omega)]
  rfl
 ·rw [br_df hn]
theorem v_concatSp : Valid Try.prog n_concatSp c_concatSp := by
 refine valid_fn mixed hf_concatSp (by kernel_rfl) rfl (ts := tmpsOf f_concatSp.results.toList) (by kernel_rfl) (cfg := cfgW g_concatSp) tt_ok (Γok_cons v_growSp Γok_nil) concatSp_tm c_concatSp (by kernel_rfl) (fun _ _ _ _ => ⟨⟩) ?_
 rintro ⟨(l : List (List Spn)), ⟨⟩⟩ r u h
 obtain ⟨h1, h2⟩ := grd_some h
 simp only [Bool.and_eq_true, decide_eq_true_eq, List.all_eq_true] at h1
 obtain ⟨g1, g2⟩ := h1
 refine ⟨6, (concatSp_rn _ _).trans (Eq.trans ?_ (congrArg some h2))⟩
 show concatSp_P 6 l = some ((l.flatten, ()), ((), ()))
 unfold concatSp_P
 have hsum : ∀ i, i ≤ l.length → (l.take i).flatten.length ≤ 200 * i := by
  intro i
  induction i with
  | zero => intro _; simp
  | succ i ih =>
   intro hi
   have hm := g2 _ (mem_getD (z := ([] : List Spn)) (show i < l.length by omega))
   have := ih (by omega)
   rw [take_snoc l i [] (by omega), List.flatten_append, List.length_append]
   simp only [List.flatten_cons, List.flatten_nil, List.append_nil]
   omega
 refine loopN_for (step := concatSp_L2 6) l.length (fun i => (l, (((l.take i).flatten.length : Nat) : Int), l, (l.length : Int), (i : Int), ())) (fun i hi rec => ?_) (fun rec => ?_) 6 (by omega)
 ·simp only [concatSp_L2]
  rw [show ((i : Nat) : Int).toNat = i by omega]
  have hs := hsum (i + 1) (by omega)
  have hs0 := hsum i (by omega)
  have hm := g2 _ (mem_getD (z := ([] : List Spn)) (show i < l.length by omega))
  rw [take_snoc l i [] hi, List.flatten_append, List.length_append] at hs ⊢
  simp only [List.flatten_cons, List.flatten_nil, List.append_nil] at hs ⊢
  rw [br_dt (by omega), br_dt (by omega), br_dt (by omega), wrapI (n := (((l.take i).flatten.length : Nat) : Int) + ((List.length (l.getD i []) : Nat) : Int)) (by omega) (by omega), br_df (by omega), wrapI (n := (i : Int) + 1) (by omega) (by omega)]
  rfl
 ·simp only [concatSp_L2]
  have hs0 := hsum l.length (Nat.le_refl _)
  rw [br_df (by omega), bd_grd (and_t (decide_eq_true (by omega)) (decide_eq_true (by omega)))]
  simp only
  refine loopN_for (step := concatSp_L1) l.length (fun i => ((l.take i).flatten, l, (l.length : Int), (i : Int), ())) (fun i hi rec => ?_) (fun rec => ?_) 6 (by omega)
  ·simp only [concatSp_L1, Int.toNat_natCast]
   have hs0 := hsum i (by omega)
   have hm := g2 _ (mem_getD (z := ([] : List Spn)) (show i < l.length by omega))
   rw [br_dt (by omega), br_dt (by omega), br_dt (by omega), br_dt (by unfold LIM; omega), br_dt (by unfold LIM; omega), wrapI (n := (i : Int) + 1) (by omega) (by omega), take_snoc l i [] hi, List.flatten_append]
   simp only [List.flatten_cons, List.flatten_nil, List.append_nil]
   rfl
  ·simp only [concatSp_L1]
   rw [br_df (by omega), List.take_length]
theorem v_spanRight : Valid Try.prog n_spanRight c_spanRight := by
 refine valid_fn mixed hf_spanRight (by kernel_rfl) rfl (ts := tmpsOf f_spanRight.results.toList) (by kernel_rfl) (cfg := cfgW g_spanRight) tt_ok Γok_nil spanRight_tm c_spanRight (by kernel_rfl) (fun _ _ _ _ => ⟨⟩) ?_
 rintro ⟨(s : Spn), ⟨⟩⟩ r u h
 refine ⟨0, (spanRight_rn _ _).trans (Eq.trans ?_ h)⟩
 show spanRight_P 0 s = some ((spanR s, ()), (), ())
 unfold spanRight_P spanR
 by_cases c1 : 0 ≤ s.1
 ·rw [br_dt c1, decide_eq_true c1, Bool.true_and]
  by_cases c2 : s.1 < 4
  ·rw [br_dt (by omega), decide_eq_true c2, Bool.true_and]
   by_cases c3 : 0 ≤ s.2.1
   ·rw [br_dt c3, decide_eq_true c3, Bool.true_and]
    by_cases c4 : s.2.2 ≤ 65536
    ·rw [br_dt c4, decide_eq_true c4, Bool.true_and]
    ·rw [br_df c4, decide_eq_false c4]; rfl
   ·rw [br_df c3, decide_eq_false c3]; rfl
  ·rw [br_df (by omega), decide_eq_false c2]; rfl
 ·rw [br_df c1, decide_eq_false c1]; rfl
theorem v_doBeyond : Valid Try.prog n_doBeyond c_doBeyond := by
 refine valid_fn mixed hf_doBeyond (by kernel_rfl) rfl (ts := tmpsOf f_doBeyond.results.toList) (by kernel_rfl) (cfg := cfgW g_doBeyond) tt_ok (Γok_cons v_spanRight Γok_nil) doBeyond_tm c_doBeyond (by kernel_rfl) (fun _ _ _ _ => ⟨⟩) ?_
 rintro ⟨(s : Spn), ⟨⟩⟩ r u h
 exact ⟨0, (doBeyond_rn _ _).trans h⟩
theorem idxS_ge : ∀ (l : List Spn) (n : Int), 0 ≤ n → (decide (idxS l n ≥ 0)) = beyond l
 | [], n, _ => rfl
 | s :: l, n, h => by
  unfold idxS beyond
  rw [List.any_cons]
  cases spanR s with
  | true =>
   have := idxS_ge l (n + 1) (by omega)
   rw [if_pos rfl, this]; rfl
  | false => rw [if_neg (by decide), decide_eq_true (by omega)]; rfl
theorem idxS_app : ∀ (l r : List Spn) (n : Int), (∀ s ∈ l, spanR s = true) → idxS (l ++ r) n = idxS r (n + l.length)
 | [], r, n, _ => by simp
 | s :: l, r, n, h => by
  show (if spanR s then idxS (l ++ r) (n + 1) else n) = _
  rw [h s List.mem_cons_self, if_pos rfl, idxS_app l r (n + 1) fun x hx => h x (List.mem_cons_of_mem _ hx)]
  simp only [List.length_cons]
  congr 1; omega
theorem v_indexSp : Valid Try.prog n_indexSp (c_indexSp n_doBeyond) := by
 refine valid_fn mixed hf_indexSp (by kernel_rfl) rfl (ts := tmpsOf f_indexSp.results.toList) (by kernel_rfl) (cfg := cfgW g_indexSp) tt_ok (Γok_cons v_doBeyond Γok_nil) indexSp_tm (c_indexSp n_doBeyond) (by kernel_rfl) (fun _ _ _ _ => ⟨⟩) ?_
 rintro ⟨(l : List Spn), ⟨⟩, ⟨⟩⟩ r u h
 obtain ⟨h1, h2⟩ := grd_some h
 have hl := lenOk_lt h1
 dsimp only at hl
 refine ⟨l.length + 1, (indexSp_rn _ l ()).trans (Eq.trans ?_ (congrArg some h2))⟩
 show loopN indexSp_L1 (l.length + 1) (l, (), (l.length : Int), ((0 : Nat) : Int), ()) = some ((idxS l 0, ()), ((), (), ()))
 refine loopN_meas (fun x => l.length - x.2.2.2.1.toNat) (fun x => ∃ i : Nat, i ≤ l.length ∧ x = (l, (), (l.length : Int), (i : Int), ()) ∧ ∀ s ∈ l.take i, spanR s = true) (fun _ => some ((idxS l 0, ()), ((), (), ()))) ?_ _ _ ⟨0, by omega, rfl, by simp⟩ (by simp)
 rintro x ⟨i, hi, rfl, ht⟩ rec hrec
 simp only [indexSp_L1, Int.toNat_natCast]
 by_cases h : i < l.length
 ·rw [br_dt (by omega), br_dt (by omega), br_dt (by omega), wrapI (by omega) (by omega)]
  have ed : l.drop i = l.getD i (0, 0, 0) :: l.drop (i + 1) := by
   rw [List.drop_eq_getElem_cons h, List.getD_eq_getElem?_getD, List.getElem?_eq_getElem h]; rfl
  cases hs : spanR (l.getD i (0, 0, 0)) with
  | true =>
   refine hrec _ ⟨i + 1, by omega, rfl, fun s hm => ?_⟩ (by simp only; omega)
   rw [take_snoc l i (0, 0, 0) h] at hm
   rcases List.mem_append.1 hm with hm | hm
   ·exact ht s hm
   ·rw [List.mem_singleton.1 hm]; exact hs
  | false =>
   have e := idxS_app (l.take i) (l.drop i) 0 ht
   rw [List.take_append_drop, ed] at e
   have e2 : idxS (l.getD i (0, 0, 0) :: l.drop (i + 1)) (0 + ((l.take i).length : Nat)) = (i : Int) := by
    show (if spanR (l.getD i (0, 0, 0)) then _ else _) = _
    rw [hs, if_neg (by decide), List.length_take]; omega
   rw [e, e2]
   rfl
 ·rw [br_df (by omega)]
  have e := idxS_app (l.take i) [] 0 ht
  rw [List.append_nil, List.take_of_length_le (by omega)] at e
  rw [e]
  rfl
theorem v_containsSp : Valid Try.prog n_containsSp (c_containsSp n_doBeyond) := by
 refine valid_fn mixed hf_containsSp (by kernel_rfl) rfl (ts := tmpsOf f_containsSp.results.toList) (by kernel_rfl) (cfg := cfgW g_containsSp) tt_ok (Γok_cons v_indexSp Γok_nil) containsSp_tm (c_containsSp n_doBeyond) (by kernel_rfl) (fun _ _ _ _ => ⟨⟩) ?_
 rintro ⟨(l : List Spn), ⟨⟩, ⟨⟩⟩ r u h
 obtain ⟨h1, h2⟩ := grd_some h
 refine ⟨0, (containsSp_rn _ l ()).trans (Eq.trans ?_ (congrArg some h2))⟩
 show bd (grd (lenOk l) _) _ = some ((beyond l, ()), ((), (), ()))
 rw [bd_grd h1]
 show some ((decide (idxS l 0 ≥ 0), ()), (), (), ()) = _
 rw [idxS_ge l 0 (by omega)]
theorem not16 {n : Int} (h0 : 0 ≤ n) (h1 : n ≤ 65535) : ~~~BitVec.ofInt 16 n = BitVec.ofInt 16 (IntKind.u16.wrap (65535 - n)) := by
 rw [wrapW (by omega) (by omega)]
 apply BitVec.eq_of_toNat_eq
 rw [BitVec.toNat_not, BitVec.toNat_ofInt, BitVec.toNat_ofInt]
 have e1 : n % ((2 ^ 16 : Nat) : Int) = n := Int.emod_eq_of_lt h0 (by omega)
 have e2 : (65535 - n) % ((2 ^ 16 : Nat) : Int) = 65535 - n := Int.emod_eq_of_lt (by omega) (by omega)
 rw [e1, e2]
 omega
theorem maskN_eq (was : Int) {an : Int} (o : Int) (h0 : 0 ≤ an) (h1 : an ≤ 65535) :
  IntKind.u16.wrap (((BitVec.ofInt 16 (IntKind.u16.wrap (((BitVec.ofInt 16 was &&& BitVec.ofInt 16 an).toNat : Nat) : Int)) ||| BitVec.ofInt 16 (IntKind.u16.wrap (((BitVec.ofInt 16 o &&& ~~~BitVec.ofInt 16 an).toNat : Nat) : Int))).toNat : Nat) : Int) = maskN was an o := by
 rw [not16 h0 h1]; rfl
theorem askOk_isW {a : AskT} (h : askW a = true) : (0 ≤ aVal a ∧ aVal a ≤ 65535) ∧ (0 ≤ aAnd a ∧ aAnd a ≤ 65535) ∧ (0 ≤ aOr a ∧ aOr a ≤ 65535) := by
 unfold askW at h
 simp only [Bool.and_eq_true, isW_iff] at h
 exact h
theorem v_execCells : Valid Try.prog n_execCells c_execCells := by
 refine valid_fnc mixed hf_execCells (by kernel_rfl) rfl (cfg := cfgW g_execCells) tt_ok (Γok_cons v_askRight (Γok_cons v_writes (Γok_cons v_table (Γok_cons v_lay Γok_nil)))) execCells_tm c_execCells (by kernel_rfl) (fun _ _ _ _ => ⟨⟩) ?_
 rintro ⟨(a : AskT), (was : Int), ⟨⟩⟩ r u h
 obtain ⟨h1, h2⟩ := grd_some h
 obtain ⟨g0, g3⟩ := Bool.and_eq_true_iff.1 (show (askLen a && askW a) = true from h1)
 unfold askLen at g0
 simp only [Bool.and_eq_true] at g0
 obtain ⟨g1, g2⟩ := g0
 have k1 := lenOk_lt g1
 have k2 := lenOk_lt g2
 refine ⟨(aBits a).length + 1, (execCells_rn _ _ _).trans (Eq.trans ?_ (congrArg some h2))⟩
 show bd (grd (askW a) ((askOk a, ()), (), ())) _ = some ((cellsA a was, ()), ((), (), ()))
 rw [bd_grd g3]
 unfold cellsA
 cases hk : askOk a with
 | false => rfl
 | true =>
  obtain ⟨q1, q2, q3, q4, q5, q6⟩ := askOk_at hk
  obtain ⟨w1, w2, w3⟩ := askOk_isW g3
  obtain ⟨f, at1, n, v, an, o, bs, ws, ra, rn, c, ob⟩ := a
  dsimp only [aBits, aWords, aAnd] at g1 g2 k1 k2 q1 q2 q3 w2 ⊢
  have hat : ∀ l : List Int, lenOk l = true → (lenOk l && (decide ((-9223372036854775808 : Int) ≤ at1) && decide (at1 ≤ (9223372036853775807 : Int)))) = true := fun l hl => and_t hl (and_t (decide_eq_true (by omega)) (decide_eq_true (by omega)))
  rcases (known_iff f).1 q1 with rfl | rfl | rfl | rfl | rfl | rfl | rfl | rfl | rfl | rfl | rfl
  ·rfl
  ·rfl
  ·rfl
  ·rfl
  ·show bd (grd _ _) _ = _
   rw [bd_grd (hat _ rfl)]; rfl
  ·show bd (grd _ _) _ = _
   rw [bd_grd (hat _ rfl)]; rfl
  ·show loopN execCells_L1 _ _ = _
   refine loopN_for (step := execCells_L1) bs.length (fun i => ((15, at1, n, v, an, o, bs, ws, ra, rn, c, ob, ()), (bs.take i).map bitN, bs, (bs.length : Int), (i : Int), ())) (fun i hi rec => ?_) (fun rec => ?_) (bs.length + 1) (by omega)
   ·simp only [execCells_L1, Int.toNat_natCast]
    have e : ((bs.take i).map bitN).length = i := by rw [List.length_map, List.length_take]; omega
    rw [br_dt (by omega), br_dt (by omega), br_dt (by omega), wrapI (by omega) (by omega), take_snoc bs i false hi, List.map_append]
    cases bs.getD i false with
    | true =>
     rw [br_t rfl, br_dt (by rw [e]; simp only [List.length_singleton, LIM]; omega), br_dt (by rw [e]; simp only [List.length_singleton, LIM]; omega)]
     rfl
    | false =>
     rw [br_f rfl, br_dt (by rw [e]; simp only [List.length_singleton, LIM]; omega), br_dt (by rw [e]; simp only [List.length_singleton, LIM]; omega)]
     rfl
   ·simp only [execCells_L1]
    rw [br_df (by omega), List.take_length, bd_grd (hat _ (lenOk_of (by rw [List.length_map]; omega)))]
    rfl
  ·show bd (grd _ _) _ = _
   rw [bd_grd (hat _ g2)]; rfl
  ·show bd (grd (lenOk [_] && _) ((layFrom _ _ [_], ()), _)) _ = _
   rw [maskN_eq was o w2.1 w2.2]
   rw [bd_grd (hat _ rfl)]; rfl
  ·show bd (grd _ _) _ = _
   rw [bd_grd (hat _ g2)]; rfl
  ·rfl
theorem toldRead_L2_eq : toldRead_L2 = toldRead_L1 := by kernel_rfl
theorem v_toldRead : Valid Try.prog n_toldRead c_toldRead := by
 refine valid_fnc mixed hf_toldRead (by kernel_rfl) rfl (cfg := cfgW g_toldRead) tt_ok (Γok_cons v_cloneWords Γok_nil) toldRead_tm c_toldRead (by kernel_rfl) (fun _ _ _ _ => ⟨⟩) ?_
 rintro ⟨(f : Int), (l : List Int), ⟨⟩⟩ r u h
 obtain ⟨h1, h2⟩ := grd_some h
 have hl := lenOk_lt h1
 dsimp only at hl
 refine ⟨l.length + 1, (toldRead_rn _ _ _).trans (Eq.trans ?_ (congrArg some h2))⟩
 show toldRead_P (l.length + 1) f l = some ((shownT f l, ()), ((), (), ()))
 have hloop1 : loopN toldRead_L1 (l.length + 1) ((0, 0, (), (), 0, 0, 0, 0, 0, 0, 0, false, 0, (), ()), (f, 0, [], (), 0, 0, 0, 0, 0, 0, 0, false, 0, (), ()), l, (l.length : Int), 0, ()) = some (((f, 0, l.map (fun v => v != 0), [], 0, 0, 0, 0, 0, 0, 0, false, 0, []), ()), (), (), ()) := by
  refine loopN_for (step := toldRead_L1) l.length (fun i => ((0, 0, (), (), 0, 0, 0, 0, 0, 0, 0, false, 0, (), ()), (f, 0, (l.take i).map (fun v => v != 0), (), 0, 0, 0, 0, 0, 0, 0, false, 0, (), ()), l, (l.length : Int), (i : Int), ())) (fun i hi rec => ?_) (fun rec => ?_) (l.length + 1) (by omega)
  ·simp only [toldRead_L1, Int.toNat_natCast]
   have e : ((l.take i).map (fun v => v != 0)).length = i := by rw [List.length_map, List.length_take]; omega
   rw [br_dt (by omega), br_dt (by omega), br_dt (by omega), br_dt (by rw [e]; simp only [List.length_singleton, LIM]; omega), br_dt (by rw [e]; simp only [List.length_singleton, LIM]; omega), wrapI (by omega) (by omega)]
   rw [take_snoc l i 0 hi, List.map_append]
   rfl
  ·simp only [toldRead_L1]
   rw [br_df (by omega), List.take_length]
 unfold toldRead_P shownT
 rw [toldRead_L2_eq]
 by_cases f1 : f = 1
 ·rw [br_t (by rw [f1]; rfl), if_pos (.inl f1)]
  exact hloop1
 ·rw [br_f (by simpa using f1)]
  by_cases f2 : f = 2
  ·rw [br_t (by rw [f2]; rfl), if_pos (.inr f2)]
   exact hloop1
  ·rw [br_f (by simpa using f2), bd_grd (decide_eq_true hl), if_neg (by rintro (h | h); exact f1 h; exact f2 h)]
theorem v_fvalues : Valid Try.prog n_fvalues c_fvalues := by
 refine valid_fn mixed hf_fvalues (by kernel_rfl) rfl (ts := tmpsOf f_fvalues.results.toList) (by kernel_rfl) (cfg := cfgW g_fvalues) tt_ok (Γok_cons v_fget Γok_nil) fvalues_tm c_fvalues (by kernel_rfl) (fun _ _ _ _ => ⟨⟩) ?_
 rintro ⟨(⟨m, ⟨⟩⟩ : Regs × Unit), (s : Spn), ⟨⟩⟩ r u h
 obtain ⟨h1, h2⟩ := grd_some h
 obtain ⟨c1, c2, c3, c4, c5⟩ := spanR_iff.1 (show spanR s = true from h1)
 refine ⟨65537, (fvalues_rn _ _ _).trans (Eq.trans ?_ (congrArg some h2))⟩
 show fvalues_P 65537 (m, ()) s = some ((valsF m s, ()), ((m, ()), (), ()))
 unfold fvalues_P
 rw [wrapI (n := s.2.2 - s.2.1) (by omega) (by omega), br_dt (by omega), br_dt (by unfold LIM; omega), br_dt (by unfold LIM; omega)]
 have := loopN_for (step := fvalues_L1) (s.2.2 - s.2.1).toNat (fun i => ((m, ()), (s.1, s.2.1, s.2.2, ()), (List.range i).map (fun (j : Nat) => getF m (s.1, s.2.1 + (j : Int))), s.2.1 + (i : Int), ())) (res := some ((valsF m s, ()), ((m, ()), (), ()))) (fun i hi rec => ?_) (fun rec => ?_) 65537 (by omega)
 ·have e : s.2.1 + ((0 : Nat) : Int) = s.2.1 := by omega
  simpa [e] using this
 ·have e : ((List.range i).map (fun (j : Nat) => getF m (s.1, s.2.1 + (j : Int)))).length = i := by simp
  simp only [fvalues_L1]
  rw [br_dt (by omega), br_dt (by rw [e]; simp only [List.length_singleton, LIM]; omega), br_dt (by rw [e]; simp only [List.length_singleton, LIM]; omega), wrapI (by omega) (by omega)]
  have e2 : (List.range (i + 1)).map (fun (j : Nat) => getF m (s.1, s.2.1 + (j : Int))) = cat ((List.range i).map (fun (j : Nat) => getF m (s.1, s.2.1 + (j : Int)))) [getF m (s.1, s.2.1 + (i : Int))] := by
   rw [List.range_succ, List.map_append]; rfl
  rw [e2, show s.2.1 + ((i + 1 : Nat) : Int) = s.2.1 + (i : Int) + 1 by push_cast; omega]
 ·simp only [fvalues_L1]
  rw [br_df (by omega)]
  rfl
abbrev DoFRes := Option ((TellT × Bool × Unit) × (Regs × Unit) × Unit × Unit)
theorem v_fdo : Valid Try.prog n_fdo c_fdo := by
 refine valid_fnc mixed hf_fdo (by kernel_rfl) rfl (cfg := cfgW g_fdo) tt_ok (Γok_cons v_askSpans (Γok_cons v_concatSp (Γok_cons v_containsSp (Γok_cons v_fget (Γok_cons v_execCells (Γok_cons v_fset (Γok_cons v_fvalues (Γok_cons v_toldRead (Γok_cons v_tellEcho Γok_nil))))))))) fdo_tm c_fdo (by kernel_rfl) (fun _ _ _ _ => ⟨⟩) ?_
 rintro ⟨(⟨m, ⟨⟩⟩ : Regs × Unit), (a : AskT), ⟨⟩⟩ r u h
 obtain ⟨h1, h2⟩ := grd_some h
 obtain ⟨g0, g3⟩ := Bool.and_eq_true_iff.1 (show (askLen a && askW a) = true from h1)
 have g1 := g0
 unfold askLen at g1
 simp only [Bool.and_eq_true] at g1
 have k1 := lenOk_lt g1.1
 have k2 := lenOk_lt g1.2
 refine ⟨0, (fdo_rn _ _ _).trans (Eq.trans ?_ (congrArg some h2))⟩
 show fdo_P 0 (m, ()) a = (some (((doF m a).1.1, (doF m a).1.2, ()), ((doF m a).2, ()), (), ()) : DoFRes)
 unfold fdo_P
 simp only [askEta]
 rw [bd_grd g3]
 simp only
 have hsp : ((spansA a).1 = [] ∨ ∃ s, (spansA a).1 = [s]) ∧ ((spansA a).2 = [] ∨ ∃ s, (spansA a).2 = [s]) := by
  cases hk : askOk a with
  | false =>
   have e : spansA a = ([], []) := by unfold spansA; rw [if_pos hk]
   rw [e]; exact ⟨.inl rfl, .inl rfl⟩
  | true =>
   rcases spansA_ok hk with e | ⟨s, t, e, _⟩ | ⟨t, e⟩ | ⟨s, e, _⟩ <;> rw [e]
   ·exact ⟨.inl rfl, .inl rfl⟩
   ·exact ⟨.inr ⟨s, rfl⟩, .inr ⟨t, rfl⟩⟩
   ·exact ⟨.inl rfl, .inr ⟨t, rfl⟩⟩
   ·exact ⟨.inr ⟨s, rfl⟩, .inl rfl⟩
 have hl1 : (spansA a).1.length ≤ 1 := by rcases hsp.1 with e | ⟨s, e⟩ <;> rw [e] <;> simp
 have hl2 : (spansA a).2.length ≤ 1 := by rcases hsp.2 with e | ⟨s, e⟩ <;> rw [e] <;> simp
 rw [bd_grd (and_t rfl (and_t (decide_eq_true (by omega)) (and_t (decide_eq_true (by omega)) rfl)))]
 simp only
 have ecat : (spansA a).1.append ((spansA a).2.append []) = (spansA a).1 ++ (spansA a).2 := by
  show (spansA a).1 ++ ((spansA a).2 ++ []) = _
  rw [List.append_nil]
 rw [ecat]
 unfold doF
 by_cases hn : ((spansA a).1 ++ (spansA a).2).length = 0
 ·rw [br_t (by rw [hn]; rfl), if_pos (.inl hn)]
  rfl
 ·have hlen : ((spansA a).1 ++ (spansA a).2).length ≤ 2 := by rw [List.length_append]; omega
  rw [br_f (beq_eq_false_iff_ne.2 (by omega)), bd_grd (lenOk_of (by omega))]
  simp only
  cases hb : beyond ((spansA a).1 ++ (spansA a).2) with
  | true => rw [br_t rfl, if_pos (.inr rfl)]; rfl
  | false =>
   rw [br_f rfl, if_neg (by rintro (h | h); exact hn h; cases h), bd_grd (and_t g0 g3)]
   simp only
   have hc := cellsA_len a (getF m (2, a.2.1))
   rw [bd_grd (lenOk_of (by omega))]
   simp only
   rcases hsp.1 with e | ⟨s, e⟩
   ·rw [e, br_df (by simp), bd_grd g3]
   ·have hs : spanR s = true := by
     rw [e] at hb
     unfold beyond at hb
     simp only [List.singleton_append, List.any_cons, Bool.or_eq_false_iff] at hb
     simpa using hb.1
    obtain ⟨c1, c2, c3, c4, c5⟩ := spanR_iff.1 hs
    rw [e, br_dt (by simp), br_dt (by simp)]
    have eg : ([s] : List Spn).getD (Int.toNat 0) (0, 0, 0) = s := rfl
    rw [eg]
    refine (congrArg (fun z => bd z _) (grd_t (v := ((valsF (setF m (cellsA a (getF m (2, aAt a)))) s, ()), (setF m (cellsA a (getF m (2, aAt a))), ()), (), ())) hs)).trans ?_
    show bd (grd (lenOk (valsF (setF m (cellsA a (getF m (2, aAt a)))) s)) _) _ = _
    have hv : (valsF (setF m (cellsA a (getF m (2, aAt a)))) s).length = (s.2.2 - s.2.1).toNat := by simp [valsF]
    rw [bd_grd (lenOk_of (by omega))]
end Go.BB
set_option linter.unusedSimpArgs false
set_option linter.unusedVariables false
namespace Go.BB
open Go
theorem bitsS_len (v n : Int) : (bitsS v n).length = n.toNat := by simp [bitsS]
theorem wordsS_len (k n : Int) : (wordsS k n).length = n.toNat := by simp [wordsS]
theorem askS_len (k v : Int) : (aBits (askS k v)).length ≤ 24 ∧ (aWords (askS k v)).length ≤ 24 := by
 have d2 := digitS_range k 640 (n := 6) (by decide)
 unfold askS
 generalize (if digitS k 3840 12 = 0 then digitS k 46080 65536 else digitS k 16 40) = at1
 simp only
 repeat' split
 all_goals simp only [ask0, aBits, aWords, bitsS_len, wordsS_len, List.length_nil]
 all_goals omega
theorem askS_ok (k v : Int) : askLen (askS k v) = true := by
 have := askS_len k v
 exact and_t (lenOk_of (by omega)) (lenOk_of (by omega))
theorem valsR_len (m : List Cel) (s : Spn) : (valsR m s).length = (s.2.2 - s.2.1).toNat := by simp [valsR]
theorem doR_reg {m : List Cel} (hm : bufS m = true) (a : AskT) : bufS (doR m a).2 = true ∧ (doR m a).2.length ≤ m.length + max (max (aBits a).length (aWords a).length) 1 := by
 unfold doR
 split
 ·exact ⟨hm, by show m.length ≤ _; omega⟩
 ·have hc := cellsA_len a (getK m ((tabS (aFn a)).1, aAt a)).1
  obtain ⟨k1, k2⟩ := setR_ok (cellsA a (getK m ((tabS (aFn a)).1, aAt a)).1) m hm
  split
  ·exact ⟨k1, by show (setR _ _).length ≤ _; omega⟩
  ·exact ⟨k1, by show (setR _ _).length ≤ _; omega⟩
theorem echoA_len (a : AskT) : tellLen (echoA a) = true := by
 unfold echoA
 repeat' split
 all_goals rfl
theorem shownA_len (a : AskT) (l : List Int) (h : l.length < 1000000) : tellLen (shownA a l) = true := by
 unfold shownA
 split
 ·exact and_t (lenOk_of (by simpa using h)) rfl
 ·exact and_t rfl (and_t (lenOk_of h) rfl)
theorem doR_tell (m : List Cel) (a : AskT) : tellLen (doR m a).1.1 = true := by
 unfold doR
 split
 ·rfl
 ·rename_i hc
  have hk : askOk a = true := by
   cases h : askOk a with
   | true => rfl
   | false => exact absurd (.inl h) hc
  split
  ·exact echoA_len a
  ·rename_i s l hs
   refine shownA_len a _ ?_
   rw [valsR_len]
   rcases spansA_ok hk with e | ⟨s', t, e, z1, z2, z3, z4, z5⟩ | ⟨t, e⟩ | ⟨s', e, z1, z2, z3, z4, z5⟩
   ·rw [e] at hs; cases hs
   ·rw [e] at hs; cases hs; omega
   ·rw [e] at hs; cases hs
   ·rw [e] at hs; cases hs; omega
abbrev askD : AskT := (3, 1, 2, 0, 0, 0, [], [], 0, 0, 0, 0)
theorem stepD_ok (bs : List Int) (i k : Nat) {m : List Cel} (hm : bufS m = true) : stepOk (stepD bs i k m).1 = true ∧ bufS (stepD bs i k m).2 = true ∧ (stepD bs i k m).2.length ≤ m.length + 25 := by
 have hl := askS_len (digitS (atS bs ((i : Int) + (k : Int))) (1 + (k : Int)) 1099511627776) (atS bs ((i : Int) + (k : Int)))
 unfold stepD
 simp only
 generalize askS (digitS (atS bs ((i : Int) + (k : Int))) (1 + (k : Int)) 1099511627776) (atS bs ((i : Int) + (k : Int))) = a at hl ⊢
 obtain ⟨h1, h2⟩ := doR_reg hm a
 have ht := doR_tell m a
 have ok : ∀ (a : AskT) (t : TellT), (aBits a).length ≤ 24 → (aWords a).length ≤ 24 → tellLen t = true → stepOk (a, t) = true := by
  intro a t g1 g2 g3
  unfold tellLen at g3
  simp only [Bool.and_eq_true] at g3
  exact and_t (lenOk_of (by show (aBits a).length < _; omega)) (and_t (lenOk_of (by show (aWords a).length < _; omega)) (and_t g3.1 (and_t g3.2.1 g3.2.2)))
 split
 ·exact ⟨ok _ _ hl.1 hl.2 ht, h1, by show (doR m a).2.length ≤ _; omega⟩
 ·obtain ⟨h3, h4⟩ := doR_reg h1 askD
  refine ⟨ok _ _ (by decide) (by decide) (doR_tell _ _), h3, ?_⟩
  have : max (max (aBits askD).length (aWords askD).length) 1 = 1 := rfl
  rw [this] at h4
  show (doR (doR m a).2 askD).2.length ≤ _
  omega
theorem stepsD_ok (bs : List Int) (i : Nat) {m : List Cel} (hm : bufS m = true) : ∀ k, (stepsD bs i m k).1.length = k ∧ (∀ s ∈ (stepsD bs i m k).1, stepOk s = true) ∧ bufS (stepsD bs i m k).2 = true ∧ (stepsD bs i m k).2.length ≤ m.length + 25 * k
 | 0 => ⟨rfl, (fun s h => nomatch h), hm, by show m.length ≤ _; omega⟩
 | k + 1 => by
  obtain ⟨h1, h2, h3, h4⟩ := stepsD_ok bs i hm k
  obtain ⟨g1, g2, g3⟩ := stepD_ok bs i k h3
  unfold stepsD
  simp only
  refine ⟨by simp [h1], fun s hs => ?_, g2, by omega⟩
  rcases List.mem_append.1 hs with hs | hs
  ·exact h2 s hs
  ·rw [List.mem_singleton.1 hs]; exact g1
theorem fieldD_len (as1 bs : List Int) (i : Nat) : (fieldD as1 bs i).length ≤ 20 := by
 unfold fieldD
 split
 ·exact cellsS_len _
 ·simp
theorem deedD_ok (as1 bs : List Int) (right : Bool) (i : Nat) {m : List Cel} (hm : bufS m = true) : deedOk (deedD as1 bs right i m).1 = true ∧ bufS (deedD as1 bs right i m).2 = true ∧ (deedD as1 bs right i m).2.length ≤ m.length + 120 := by
 have hn := digitS_range (as1.getD i 0) 12 (n := 4) (by decide)
 unfold deedD
 simp only
 obtain ⟨h1, h2, h3, h4⟩ := stepsD_ok bs i hm (digitS (as1.getD i 0) 12 4).toNat
 have hf := fieldD_len as1 bs i
 obtain ⟨k1, k2⟩ := setR_ok (fieldD as1 bs i) _ h3
 exact ⟨deedOk_iff.2 ⟨by simp only; omega, by simp only; omega, h2⟩, k1, by omega⟩
theorem deedsD_ok (as1 bs : List Int) (right : Bool) : ∀ i, (deedsD as1 bs right i).1.length = i ∧ (∀ d ∈ (deedsD as1 bs right i).1, deedOk d = true) ∧ bufS (deedsD as1 bs right i).2 = true ∧ (deedsD as1 bs right i).2.length ≤ 120 * i
 | 0 => ⟨rfl, (fun s h => nomatch h), rfl, by show 0 ≤ _; omega⟩
 | i + 1 => by
  obtain ⟨h1, h2, h3, h4⟩ := deedsD_ok as1 bs right i
  obtain ⟨g1, g2, g3⟩ := deedD_ok as1 bs right i h3
  unfold deedsD
  simp only
  refine ⟨by simp [h1], fun s hs => ?_, g2, by omega⟩
  rcases List.mem_append.1 hs with hs | hs
  ·exact h2 s hs
  ·rw [List.mem_singleton.1 hs]; exact g1
theorem deedsS_ok (as1 bs : List Int) (right : Bool) : (deedsS as1 bs right).length = min as1.length 20 ∧ ∀ d ∈ deedsS as1 bs right, deedOk d = true := by
 obtain ⟨h1, h2, _⟩ := deedsD_ok as1 bs right (min as1.length 20)
 exact ⟨h1, h2⟩
end Go.BB
set_option linter.unusedSimpArgs false
set_option linter.unusedVariables false
namespace Go.BB
open Go Go.Proofs
set_option maxRecDepth 100000
theorem stepW_iff {s : StepT} : stepW s = true ↔ askW s.1 = true ∧ (aBits s.1).length ≤ 24 ∧ (aWords s.1).length ≤ 24 ∧ tellLen s.2 = true := by
 unfold stepW
 simp only [Bool.and_eq_true, decide_eq_true_eq]
theorem stepW_len {s : StepT} (h : stepW s = true) : askLen s.1 = true := by
 obtain ⟨_, h1, h2, _⟩ := stepW_iff.1 h
 exact Bool.and_eq_true_iff.2 ⟨lenOk_of (by omega), lenOk_of (by omega)⟩
theorem deedW_iff {d : Deed} : deedW d = true ↔ d.2.2.1.length ≤ 3 ∧ d.2.2.2.length ≤ 20 ∧ (∀ s ∈ d.2.2.1, stepW s = true) ∧ deedOk d = true := by
 unfold deedW
 simp only [Bool.and_eq_true, decide_eq_true_eq, List.all_eq_true]
theorem deedsW_iff {l : List Deed} : deedsW l = true ↔ l.length ≤ 20 ∧ ∀ d ∈ l, deedW d = true := by
 unfold deedsW
 simp only [Bool.and_eq_true, decide_eq_true_eq, List.all_eq_true]
theorem drop_at {α : Type} {l : List α} {i : Nat} (h : i < l.length) (z : α) : l.drop i = l.getD i z :: l.drop (i + 1) := by
 rw [List.drop_eq_getElem_cons h, List.getD_eq_getElem?_getD, List.getElem?_eq_getElem h]; rfl
theorem getD_mem {α : Type} {l : List α} {i : Nat} (h : i < l.length) (z : α) : l.getD i z ∈ l := by
 rw [List.getD_eq_getElem?_getD, List.getElem?_eq_getElem h]; exact List.getElem_mem h
abbrev RepRes := Option ((Bool × Unit) × (Regs × Unit) × Unit × Unit)
def resF (m : Regs) (l : List StepT) (f : List Cel) : RepRes := if (playF m l).1 then some ((true, ()), (setF (playF m l).2 f, ()), (), ()) else some ((false, ()), ((playF m l).2, ()), (), ())
def frN_L1 (rec1 : (Regs × Unit) × (Bool × Int × List StepT × List Cel × Unit) × List StepT × Int × Int × Unit → RepRes) : (Regs × Unit) × (Bool × Int × List StepT × List Cel × Unit) × List StepT × Int × Int × Unit → RepRes := fun (m, d, l, n, i, ()) =>
  br (decide (i < n)) (br (decide (0 ≤ i)) (br (decide (i < (l.length : Int))) (bd (grd (askLen (l.getD i.toNat zStep).1 && askW (l.getD i.toNat zStep).1) (((doF m.1 (l.getD i.toNat zStep).1).1.1, (doF m.1 (l.getD i.toNat zStep).1).1.2, ()), ((doF m.1 (l.getD i.toNat zStep).1).2, ()), (), ())) fun (x8 : (TellT × Bool × Unit) × (Regs × Unit) × Unit × Unit) =>
   br (!x8.1.2.1) (some ((false, ()), (x8.2.1.1, ()), (), ())) (bd (grd (tellLen (l.getD i.toNat zStep).2) ((sameTellB x8.1.1 (l.getD i.toNat zStep).2, ()), (), (), ())) fun (x9 : (Bool × Unit) × Unit × Unit × Unit) =>
    br (!x9.1.1) (some ((false, ()), (x8.2.1.1, ()), (), ())) (rec1 ((x8.2.1.1, ()), (d.1, d.2.1, d.2.2.1, d.2.2.2.1, ()), l, n, IntKind.i64.wrap (i + 1), ())))) none) none)
   (bd (grd (lenOk d.2.2.2.1) ((), (setF m.1 d.2.2.2.1, ()), (), ())) fun (x10 : Unit × (Regs × Unit) × Unit × Unit) => some ((true, ()), (x10.2.1.1, ()), (), ()))
theorem frN_rn (K : Nat) (m : Regs × Unit) (d : Deed) : runF (cfgW g_freplay) K f_freplay freplay_tm [.box shFile, .val tDeed] [.val .bool] (m, d, ()) = loopN frN_L1 K ((m.1, ()), (d.1, d.2.1, d.2.2.1, d.2.2.2, ()), d.2.2.1, (d.2.2.1.length : Int), 0, ()) := by kernel_rfl
theorem v_freplay : Valid Try.prog n_freplay c_freplay := by
 refine valid_fn mixed hf_freplay (by kernel_rfl) rfl (ts := tmpsOf f_freplay.results.toList) (by kernel_rfl) (cfg := cfgW g_freplay) tt_ok (Γok_cons v_fdo (Γok_cons v_toldSame (Γok_cons v_fset Γok_nil))) freplay_tm c_freplay (by kernel_rfl) (fun _ _ _ _ => ⟨⟩) ?_
 rintro ⟨⟨(m0 : Regs), ⟨⟩⟩, (d : Deed), ⟨⟩⟩ r u h
 obtain ⟨h1, h2⟩ := grd_some h
 obtain ⟨g1, g2, g3, g4⟩ := deedW_iff.1 (show deedW d = true from h1)
 refine ⟨d.2.2.1.length + 1, (frN_rn _ _ _).trans (Eq.trans ?_ (congrArg some h2))⟩
 obtain ⟨w, s, l, f⟩ := d
 have g1 : l.length ≤ 3 := g1
 have g2 : f.length ≤ 20 := g2
 have g3 : ∀ s ∈ l, stepW s = true := g3
 show loopN frN_L1 (l.length + 1) ((m0, ()), (w, s, l, f, ()), l, (l.length : Int), 0, ()) = some (((replayF m0 (w, s, l, f)).1, ()), (((replayF m0 (w, s, l, f)).2, ()), (), ()))
 have e0 : (some (((replayF m0 (w, s, l, f)).1, ()), (((replayF m0 (w, s, l, f)).2, ()), (), ())) : RepRes) = resF m0 (l.drop 0) f := by
  unfold resF replayF
  rw [List.drop_zero]
  show _ = if (playF m0 l).1 then _ else _
  by_cases hp : (playF m0 l).1 = true
  ·rw [if_pos hp, if_pos hp]
  ·rw [if_neg hp, if_neg hp]
 rw [e0]
 refine loopN_meas (fun x => l.length - x.2.2.2.2.1.toNat) (fun x => ∃ (i : Nat) (m : Regs), i ≤ l.length ∧ x = ((m, ()), (w, s, l, f, ()), l, (l.length : Int), (i : Int), ())) (fun x => resF x.1.1 (l.drop x.2.2.2.2.1.toNat) f) ?_ _ ((m0, ()), (w, s, l, f, ()), l, (l.length : Int), 0, ()) ⟨0, m0, by omega, rfl⟩ (by simp)
 rintro x ⟨i, m, hi, rfl⟩ rec hrec
 have ei : ((i : Nat) : Int).toNat = i := by omega
 simp only [frN_L1, ei]
 by_cases h : i < l.length
 ·have hs := g3 _ (getD_mem h zStep)
  obtain ⟨s1, s2, s3, s4⟩ := stepW_iff.1 hs
  rw [br_dt (by omega), br_dt (by omega), br_dt (by omega), drop_at h zStep]
  generalize hst : l.getD i zStep = st at hs s1 s2 s3 s4
  rw [bd_grd (and_t (stepW_len hs) s1)]
  simp only
  unfold resF playF
  cases hk : (doF m st.1).1.2 with
  | false => rw [br_t (by rfl)]; rfl
  | true =>
   rw [br_f (by rfl), bd_grd s4]
   simp only
   cases hq : sameTellB (doF m st.1).1.1 st.2 with
   | false => rw [br_t (by rfl)]; rfl
   | true =>
    rw [br_f (by rfl), wrapI (by omega) (by omega)]
    exact hrec _ ⟨i + 1, _, by omega, rfl⟩ (by simp only; omega)
 ·have : i = l.length := by omega
  subst this
  rw [br_df (by omega), bd_grd (lenOk_of (by omega)), List.drop_length]
  rfl
def fpN_L1 (rec1 : List Deed × (Regs × Unit) × List Deed × Int × Int × Unit → Option ((Int × Unit) × Unit × Unit)) : List Deed × (Regs × Unit) × List Deed × Int × Int × Unit → Option ((Int × Unit) × Unit × Unit) := fun (y3, y4, y5, y6, y7, ()) =>
 br (decide (y7 < y6)) (br (decide (0 ≤ y7)) (br (decide (y7 < (y5.length : Int))) (bd (grd (deedW (y5.getD y7.toNat (false, 0, [], []))) (((replayF y4.1 (y5.getD y7.toNat (false, 0, [], []))).1, ()), ((replayF y4.1 (y5.getD y7.toNat (false, 0, [], []))).2, ()), (), ())) fun (x8 : (Bool × Unit) × (Regs × Unit) × Unit × Unit) =>
  br (!x8.1.1) (some ((y7, ()), (), ())) (rec1 (y3, (x8.2.1.1, ()), y5, IntKind.i64.wrap (y7 + 1) |> fun z => (y6, z, ())))) none) none) (some (((y3.length : Int), ()), (), ()))
theorem fpN_rn (K : Nat) (l : List Deed) : runF (cfgW g_freplays) K f_freplays freplays_tm [.val (.slice tDeed)] [.val tI] (l, ()) = loopN fpN_L1 K (l, ([], ()), l, (l.length : Int), 0, ()) := by kernel_rfl
theorem v_freplays : Valid Try.prog n_freplays c_freplays := by
 refine valid_fn mixed hf_freplays (by kernel_rfl) rfl (ts := tmpsOf f_freplays.results.toList) (by kernel_rfl) (cfg := cfgW g_freplays) tt_ok (Γok_cons v_fnew (Γok_cons v_freplay Γok_nil)) freplays_tm c_freplays (by kernel_rfl) (fun _ _ _ _ => ⟨⟩) ?_
 rintro ⟨(l : List Deed), ⟨⟩⟩ r u h
 obtain ⟨h1, h2⟩ := grd_some h
 obtain ⟨g1, g2⟩ := deedsW_iff.1 (show deedsW l = true from h1)
 refine ⟨l.length + 1, (fpN_rn _ l).trans (Eq.trans ?_ (congrArg some h2))⟩
 show loopN fpN_L1 (l.length + 1) (l, ([], ()), l, (l.length : Int), 0, ()) = some ((((replaysF [] l : Nat) : Int), ()), ((), ()))
 have e0 : (some ((((replaysF [] l : Nat) : Int), ()), ((), ())) : Option ((Int × Unit) × Unit × Unit)) = some ((((0 + replaysF [] (l.drop 0) : Nat) : Int), ()), ((), ())) := by rw [Nat.zero_add, List.drop_zero]
 rw [e0]
 refine loopN_meas (fun x => l.length - x.2.2.2.2.1.toNat) (fun x => ∃ (i : Nat) (m : Regs), i ≤ l.length ∧ x = (l, (m, ()), l, (l.length : Int), (i : Int), ())) (fun x => some ((((x.2.2.2.2.1.toNat + replaysF x.2.1.1 (l.drop x.2.2.2.2.1.toNat) : Nat) : Int), ()), ((), ()))) ?_ _ (l, ([], ()), l, (l.length : Int), 0, ()) ⟨0, [], by omega, rfl⟩ (by simp)
 rintro x ⟨i, m, hi, rfl⟩ rec hrec
 have ei : ((i : Nat) : Int).toNat = i := by omega
 simp only [fpN_L1, ei]
 by_cases h : i < l.length
 ·have hs := g2 _ (getD_mem h (false, 0, [], []))
  rw [br_dt (by omega), br_dt (by omega), br_dt (by omega), drop_at h (false, 0, [], []), bd_grd hs]
  simp only
  generalize l.getD i (false, 0, [], []) = d
  unfold replaysF
  cases hk : (replayF m d).1 with
  | false => rw [br_t (by rfl)]; rfl
  | true =>
   rw [br_f (by rfl), wrapI (by omega) (by omega)]
   refine (hrec _ ⟨i + 1, _, by omega, rfl⟩ (by simp only; omega)).trans ?_
   have e2 : (((i + 1 : Nat) : Int)).toNat = i + 1 := by omega
   show (some (((((((i + 1 : Nat) : Int)).toNat + replaysF (replayF m d).2 (l.drop (((i + 1 : Nat) : Int)).toNat) : Nat) : Int), ()), ((), ())) : Option ((Int × Unit) × Unit × Unit)) = some ((((i + (replaysF (replayF m d).2 (l.drop (i + 1)) + 1) : Nat) : Int), ()), ((), ()))
   rw [e2, show i + 1 + replaysF (replayF m d).2 (l.drop (i + 1)) = i + (replaysF (replayF m d).2 (l.drop (i + 1)) + 1) by omega]
 ·have : i = l.length := by omega
  subst this
  rw [br_df (by omega), List.drop_length]
  rfl
end Go.BB
