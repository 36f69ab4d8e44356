/- A symbolic machine for the model's code, and what it shows of this seat's functions. No conditions. -/
import Derived.Test.YtnofmeckcimodaaEVfea
import Derived.Test.YtnofmeckcimodaaESFdo
import Derived.Test.YtnofmeckcimodaaELem
import Derived.Test.YtnofmeckcimodaaEGfile
import Derived.Test.YtnofmeckcimodaaEVfdo
set_option linter.unusedSimpArgs false
set_option linter.unusedVariables false
/-! plain lemmas on stores: what is installed keeps a store right -/
namespace Go.BB
open Go
/-! cells made by numbers may be -/
end Go.BB
set_option linter.unusedSimpArgs false
set_option linter.unusedVariables false
/-! plain lemmas on deeds in order -/
namespace Go.BB
open Go
theorem sortR_snoc (l : List Deed) (x : Deed) : sortR (l ++ [x]) = insD x (sortR l) := by simp [sortR]
theorem insD_len (x : Deed) : ∀ r, (insD x r).length = r.length + 1
  | [] => rfl
  | a :: r => by
    unfold insD
    split
    · simp [insD_len x r]
    · simp
theorem sortR_len (l : List Deed) : (sortR l).length = l.length := by
  have : ∀ (l : List Deed) (r : List Deed), (l.foldl (fun r x => insD x r) r).length = r.length + l.length := by
    intro l
    induction l with
    | nil => intro r; simp
    | cons a l ih => intro r; rw [List.foldl_cons, ih, insD_len]; simp; omega
  have h := this l []
  simpa [sortR] using h
theorem sortD_len (l : List Deed) : (sortD l).length = l.length := by unfold sortD; rw [List.length_reverse, sortR_len]
theorem sortSeg_len (l : List Deed) {a b : Int} (h0 : 0 ≤ a) (h1 : a ≤ b) (h2 : b ≤ l.length) : (sortSeg l a b).length = l.length := by
  unfold sortSeg
  simp only [List.length_append, List.length_take, List.length_drop, sortD_len]
  omega
theorem sortSeg_all (l : List Deed) : sortSeg l 0 l.length = sortD l := by
  unfold sortSeg
  simp
theorem sortSeg_none (l : List Deed) {a : Int} (h : 0 ≤ a) : sortSeg l a a = l := by
  unfold sortSeg
  rw [Int.sub_self]
  show l.take a.toNat ++ (sortD [] ++ _) = l
  show l.take a.toNat ++ ([] ++ l.drop a.toNat) = l
  rw [List.nil_append, List.take_append_drop]
/-- the row, with x among what it passed -/
def insRow (P : List Deed) (r : List Deed) (x : Deed) (M : List Deed) : List Deed := (P ++ r.reverse) ++ x :: M
theorem insRow_swap (P r M : List Deed) (x c : Deed) (z : Deed) :
    (insRow P (c :: r) x M).getD (P.length + (r.length + 1)) z = x ∧ (insRow P (c :: r) x M).getD (P.length + r.length) z = c ∧
    ((insRow P (c :: r) x M).set (P.length + (r.length + 1)) c).set (P.length + r.length) x = insRow P r x (c :: M) := by
  have e : insRow P (c :: r) x M = (P ++ r.reverse) ++ c :: x :: M := by simp [insRow]
  have hl : P.length + r.length = (P ++ r.reverse).length := by simp
  have hl2 : P.length + (r.length + 1) = (P ++ r.reverse).length + 1 := by simp; omega
  have e2 : insRow P r x (c :: M) = (P ++ r.reverse) ++ x :: c :: M := rfl
  rw [e, e2, hl, hl2]
  generalize P ++ r.reverse = L
  refine ⟨?_, ?_, ?_⟩
  · rw [getD_app_ge _ _ _ _ (by omega), show L.length + 1 - L.length = 1 by omega]; rfl
  · rw [getD_app_ge _ _ _ _ (by omega), Nat.sub_self]; rfl
  · rw [List.set_append_right _ _ (by omega), List.set_append_right _ _ (by omega), show L.length + 1 - L.length = 1 by omega, Nat.sub_self]
    rfl
theorem set_same {α : Type} {l : List α} {i : Nat} {z : α} (h : i < l.length) : l.set i (l.getD i z) = l := by
  rw [List.getD_eq_getElem?_getD, List.getElem?_eq_getElem h]
  exact List.set_getElem_self h
theorem deedOk_iff {d : Deed} : deedOk d = true ↔ d.2.2.1.length < 1000000 ∧ d.2.2.2.length < 1000000 ∧ ∀ s ∈ d.2.2.1, stepOk s = true := by
  unfold deedOk lenOk
  simp only [Bool.and_eq_true, decide_eq_true_eq, List.all_eq_true]
theorem stepOk_iff {s : StepT} : stepOk s = true ↔ s.1.2.2.2.2.2.2.1.length < 1000000 ∧ s.1.2.2.2.2.2.2.2.1.length < 1000000 ∧ s.2.2.2.1.length < 1000000 ∧ s.2.2.2.2.1.length < 1000000 ∧ s.2.2.2.2.2.2.2.2.2.2.2.2.2.2.length < 1000000 := by
  unfold stepOk lenOk
  simp only [Bool.and_eq_true, decide_eq_true_eq]
theorem mem_getD {α : Type} {l : List α} {i : Nat} {z : α} (h : i < l.length) : l.getD i z ∈ l := by
  rw [List.getD_eq_getElem?_getD, List.getElem?_eq_getElem h]; exact List.getElem_mem h
end Go.BB
set_option linter.unusedSimpArgs false
set_option linter.unusedVariables false
namespace Go.BB
open Go Go.Proofs
set_option maxRecDepth 100000
theorem v_late : Valid Try.prog n_late c_late := by
  refine valid_fn mixed hf_late (by kernel_rfl) rfl (ts := tmpsOf f_late.results.toList) (by kernel_rfl) (cfg := cfgW g_late) tt_ok Γok_nil late_tm c_late (by kernel_rfl) (fun _ _ _ _ => ⟨⟩) ?_
  rintro ⟨(d : Deed), ⟨⟩⟩ r u h
  refine ⟨0, (late_rn _ _).trans (Eq.trans ?_ h)⟩
  obtain ⟨w, d⟩ := d
  cases w <;> rfl
theorem v_isNaNU : Valid Try.prog n_isNaNU c_isNaNU := by
  refine valid_fn mixed hf_isNaNU (by kernel_rfl) rfl (ts := tmpsOf f_isNaNU.results.toList) (by kernel_rfl) (cfg := cfgW g_isNaNU) tt_ok Γok_nil isNaNU_tm c_isNaNU (by kernel_rfl) (fun _ _ _ _ => ⟨⟩) ?_
  rintro ⟨(d : Int), ⟨⟩⟩ r u h
  refine ⟨0, (isNaNU_rn _ _).trans (Eq.trans ?_ h)⟩
  unfold isNaNU_P
  show _ = some ((false, ()), ((), ()))
  simp
theorem v_isNaNI : Valid Try.prog n_isNaNI c_isNaNI := by
  refine valid_fn mixed hf_isNaNI (by kernel_rfl) rfl (ts := tmpsOf f_isNaNI.results.toList) (by kernel_rfl) (cfg := cfgW g_isNaNI) tt_ok Γok_nil isNaNI_tm c_isNaNI (by kernel_rfl) (fun _ _ _ _ => ⟨⟩) ?_
  rintro ⟨(d : Int), ⟨⟩⟩ r u h
  refine ⟨0, (isNaNI_rn _ _).trans (Eq.trans ?_ h)⟩
  unfold isNaNI_P
  show _ = some ((false, ()), ((), ()))
  simp
theorem v_cmpU : Valid Try.prog n_cmpU c_cmpU := by
  refine valid_fn mixed hf_cmpU (by kernel_rfl) rfl (ts := tmpsOf f_cmpU.results.toList) (by kernel_rfl) (cfg := cfgW g_cmpU) tt_ok (Γok_cons v_isNaNU Γok_nil) cmpU_tm c_cmpU (by kernel_rfl) (fun _ _ _ _ => ⟨⟩) ?_
  rintro ⟨(a : Int), (b : Int), ⟨⟩⟩ r u h
  refine ⟨0, (cmpU_rn _ _ _).trans (Eq.trans ?_ h)⟩
  unfold cmpU_P
  show _ = some ((cmp3 a b, ()), ((), (), ()))
  unfold cmp3
  by_cases h1 : a < b
  · rw [br_dt h1, if_pos h1]
  · rw [br_df h1, if_neg h1]
    by_cases h2 : a > b
    · rw [br_dt h2, if_pos h2]
    · rw [br_df h2, if_neg h2]
theorem v_cmpI : Valid Try.prog n_cmpI c_cmpI := by
  refine valid_fn mixed hf_cmpI (by kernel_rfl) rfl (ts := tmpsOf f_cmpI.results.toList) (by kernel_rfl) (cfg := cfgW g_cmpI) tt_ok (Γok_cons v_isNaNI Γok_nil) cmpI_tm c_cmpI (by kernel_rfl) (fun _ _ _ _ => ⟨⟩) ?_
  rintro ⟨(a : Int), (b : Int), ⟨⟩⟩ r u h
  refine ⟨0, (cmpI_rn _ _ _).trans (Eq.trans ?_ h)⟩
  unfold cmpI_P
  show _ = some ((cmp3 a b, ()), ((), (), ()))
  unfold cmp3
  by_cases h1 : a < b
  · rw [br_dt h1, if_pos h1]
  · rw [br_df h1, if_neg h1]
    by_cases h2 : a > b
    · rw [br_dt h2, if_pos h2]
    · rw [br_df h2, if_neg h2]
theorem v_cmpOr : Valid Try.prog n_cmpOr c_cmpOr := by
  refine valid_fn mixed hf_cmpOr (by kernel_rfl) rfl (ts := tmpsOf f_cmpOr.results.toList) (by kernel_rfl) (cfg := cfgW g_cmpOr) tt_ok Γok_nil cmpOr_tm c_cmpOr (by kernel_rfl) (fun _ _ _ _ => ⟨⟩) ?_
  rintro ⟨(l : List Int), ⟨⟩⟩ r u h
  obtain ⟨h1, h2⟩ := grd_some h
  have hl := lenOk_lt h1
  dsimp only at hl h2
  refine ⟨l.length + 1, (cmpOr_rn _ _).trans (Eq.trans ?_ (congrArg some h2))⟩
  show loopN cmpOr_L1 (l.length + 1) (0, l, (l.length : Int), 0, ()) = some ((firstNZ l, ()), ((), ()))
  have key : ∀ (n i : Nat), i + n = l.length → ∀ K, n < K → loopN cmpOr_L1 K (0, l, (l.length : Int), (i : Int), ()) = some ((firstNZ (l.drop i), ()), ((), ())) := by
    intro n
    induction n with
    | zero =>
      intro i hi K hK
      obtain ⟨K, rfl⟩ : ∃ k, K = k + 1 := ⟨K - 1, by omega⟩
      show cmpOr_L1 _ _ = _
      simp only [cmpOr_L1]
      rw [br_df (by omega), List.drop_of_length_le (by omega)]
      rfl
    | succ n ih =>
      intro i hi K hK
      obtain ⟨K, rfl⟩ : ∃ k, K = k + 1 := ⟨K - 1, by omega⟩
      show cmpOr_L1 _ _ = _
      simp only [cmpOr_L1, Int.toNat_natCast]
      rw [br_dt (by omega), br_dt (by omega), br_dt (by omega), drop_cons l i 0 (by omega)]
      generalize l.getD i 0 = a
      unfold firstNZ
      by_cases ha : a ≠ 0
      · rw [br_t (by simpa using ha), if_pos ha]
      · rw [br_f (by simpa using ha), if_neg ha, wrapI (by omega) (by omega)]
        exact ih (i + 1) (by omega) K (by omega)
  exact key l.length 0 (by omega) _ (by omega)
theorem v_ordLess : Valid Try.prog n_ordLess c_ordLess := by
  refine valid_fn mixed hf_ordLess (by kernel_rfl) rfl (ts := tmpsOf f_ordLess.results.toList) (by kernel_rfl) (cfg := cfgW g_ordLess) tt_ok (Γok_cons v_cmpU (Γok_cons v_cmpI (Γok_cons v_cmpOr (Γok_cons v_late Γok_nil)))) ordLess_tm c_ordLess (by kernel_rfl) (fun _ _ _ _ => ⟨⟩) ?_
  rintro ⟨(a : Deed), (b : Deed), ⟨⟩⟩ r u h
  refine ⟨0, (ordLess_rn _ _ _).trans (Eq.trans ?_ h)⟩
  unfold ordLess_P
  show _ = some ((deedCmp a b, ()), ((), (), ()))
  rw [bd_grd (by rfl)]
  have e : firstNZ [cmp3 a.2.1 b.2.1, cmp3 (lateS a) (lateS b)] = deedCmp a b := by
    unfold firstNZ deedCmp
    split
    · rfl
    · unfold firstNZ firstNZ
      split
      · rfl
      · rename_i h2; exact (Decidable.not_not.1 h2).symm
  show some ((firstNZ [cmp3 a.2.1 b.2.1, cmp3 (lateS a) (lateS b)], ()), (), (), ()) = _
  rw [e]
theorem v_cloneSteps : Valid Try.prog n_cloneSteps c_cloneSteps := by
  refine valid_fn mixed hf_cloneSteps (by kernel_rfl) rfl (ts := tmpsOf f_cloneSteps.results.toList) (by kernel_rfl) (cfg := cfgW g_cloneSteps) tt_ok Γok_nil cloneSteps_tm c_cloneSteps (by kernel_rfl) (fun _ _ _ _ => ⟨⟩) ?_
  rintro ⟨(l : List StepT), ⟨⟩⟩ r u h
  obtain ⟨h1, h2⟩ := grd_some h
  have hl : l.length < 1000000 := of_decide_eq_true h1
  refine ⟨0, (cloneSteps_rn _ _).trans (Eq.trans ?_ (congrArg some h2))⟩
  unfold cloneSteps_P
  rw [Nat.zero_add, br_dt (lim_mul (by omega) (by decide)), br_dt (lim_le (by omega))]
  show mayB l.isEmpty (some (([], ()), (), ())) (some ((l, ()), (), ())) = some ((l, ()), (), ())
  cases l with
  | nil => exact if_pos rfl
  | cons a l => rfl
theorem v_cloneObjs : Valid Try.prog n_cloneObjs c_cloneObjs := by
  refine valid_fn mixed hf_cloneObjs (by kernel_rfl) rfl (ts := tmpsOf f_cloneObjs.results.toList) (by kernel_rfl) (cfg := cfgW g_cloneObjs) tt_ok Γok_nil cloneObjs_tm c_cloneObjs (by kernel_rfl) (fun _ _ _ _ => ⟨⟩) ?_
  rintro ⟨(l : List ObjT), ⟨⟩⟩ r u h
  obtain ⟨h1, h2⟩ := grd_some h
  have hl : l.length < 1000000 := of_decide_eq_true h1
  refine ⟨0, (cloneObjs_rn _ _).trans (Eq.trans ?_ (congrArg some h2))⟩
  unfold cloneObjs_P
  rw [Nat.zero_add, br_dt (lim_mul (by omega) (by decide)), br_dt (lim_le (by omega))]
  show mayB l.isEmpty (some (([], ()), (), ())) (some ((l, ()), (), ())) = some ((l, ()), (), ())
  cases l with
  | nil => exact if_pos rfl
  | cons a l => rfl
theorem pd1 (s : StepT) : (putD tStep s 6 (.slice .bool) s.1.2.2.2.2.2.2.1 : StepT) = s := by rfl
theorem pd2 (s : StepT) : (putD tStep s 7 (.slice tW) s.1.2.2.2.2.2.2.2.1 : StepT) = s := by rfl
theorem pd3 (s : StepT) : (putD tStep s 14 (.slice .bool) s.2.2.2.1 : StepT) = s := by rfl
theorem pd4 (s : StepT) : (putD tStep s 15 (.slice tW) s.2.2.2.2.1 : StepT) = s := by rfl
theorem pd5 (s : StepT) : (putD tStep s 25 (.slice tObj) s.2.2.2.2.2.2.2.2.2.2.2.2.2.2 : StepT) = s := by rfl
theorem v_own : Valid Try.prog n_own c_own := by
  refine valid_fnc mixed hf_own (by kernel_rfl) rfl (cfg := cfgW g_own) tt_ok (Γok_cons v_cloneCells (Γok_cons v_cloneSteps (Γok_cons v_cloneBits (Γok_cons v_cloneWords (Γok_cons v_cloneObjs Γok_nil))))) own_tm c_own (by kernel_rfl) (fun _ _ _ _ => ⟨⟩) ?_
  rintro ⟨(d : Deed), ⟨⟩⟩ r u h
  obtain ⟨h1, h2⟩ := grd_some h
  obtain ⟨g1, g2, g3⟩ := deedOk_iff.1 h1
  obtain ⟨w, q, ss, f⟩ := d
  try dsimp only at g1 g2 g3
  refine ⟨ss.length + 1, (own_rn _ _).trans (Eq.trans ?_ (congrArg some h2))⟩
  unfold own_P
  rw [bd_grd (decide_eq_true g2), bd_grd (decide_eq_true g1)]
  refine loopN_for (step := own_L1) ss.length (fun i => ((w, q, ss, f, ()), (false, 0, (), (), ()), (ss.length : Int), (i : Int), ())) (fun i hi rec => ?_) (fun rec => ?_) (ss.length + 1) (by omega)
  · have hs := stepOk_iff.1 (g3 _ (mem_getD (z := (((0, 0, 0, 0, 0, 0, [], [], 0, 0, 0, 0), 0, 0, [], [], 0, 0, 0, 0, 0, 0, 0, false, 0, []) : StepT)) hi))
    simp only [own_L1, Int.toNat_natCast]
    rw [br_dt (by omega), br_dt (by omega), br_dt (by omega), br_dt (by omega), br_dt (by omega), bd_grd (decide_eq_true hs.1), bd_grd (decide_eq_true hs.2.1)]
    simp only [pd1, pd2, pd3, pd4, pd5, set_same hi]
    rw [bd_grd (decide_eq_true hs.2.2.1), bd_grd (decide_eq_true hs.2.2.2.1), bd_grd (decide_eq_true hs.2.2.2.2)]
    simp only [pd1, pd2, pd3, pd4, pd5, set_same hi]
    rw [wrapI (by omega) (by omega)]
    rfl
  · simp only [own_L1]
    rw [br_df (by omega)]
    rfl
theorem deedEta (d : Deed) : ((d.1, d.2.1, d.2.2.1, d.2.2.2) : Deed) = d := rfl
/-- one round of the inner loop: from j leftwards -/
theorem ins_inner (rec1 : (List Deed × Nat) × Int × Int × Unit × Int × Unit → Option (Unit × List Deed × Unit × Unit × Unit × Unit)) (P : List Deed) (x : Deed) (Q : List Deed) (n : Nat) (b i : Int) (hn : n ≤ 1000) : ∀ (r M : List Deed) (K : Nat), r.length < K →
    P.length + r.length + 1 + M.length + Q.length = n →
    loopN (insSort_L1 rec1) K ((insRow P r x (M ++ Q), n), (P.length : Int), b, (), i, ((P.length + r.length : Nat) : Int), ()) =
      rec1 ((P ++ ((insD x r).reverse ++ (M ++ Q)), n), (P.length : Int), b, (), IntKind.i64.wrap (i + 1), ()) := by
  intro r
  induction r with
  | nil =>
    intro M K hK hl
    obtain ⟨K, rfl⟩ : ∃ k, K = k + 1 := ⟨K - 1, by omega⟩
    show insSort_L1 rec1 _ _ = _
    simp only [insSort_L1]
    rw [br_df (by simp)]
    have : insRow P [] x (M ++ Q) = P ++ ((insD x []).reverse ++ (M ++ Q)) := by simp [insRow, insD]
    rw [this]
  | cons c r ih =>
    intro M K hK hl
    obtain ⟨K, rfl⟩ : ∃ k, K = k + 1 := ⟨K - 1, by omega⟩
    simp only [List.length_cons] at hK hl
    obtain ⟨s1, s2, s3⟩ := insRow_swap P r (M ++ Q) x c (false, 0, [], [])
    show insSort_L1 rec1 _ _ = _
    have ej : ((P.length + (c :: r).length : Nat) : Int) = ((P.length + (r.length + 1) : Nat) : Int) := by simp
    have ej1 : IntKind.i64.wrap (((P.length + (r.length + 1) : Nat) : Int) - 1) = ((P.length + r.length : Nat) : Int) := by rw [wrapI (by omega) (by omega)]; omega
    rw [ej]
    simp only [insSort_L1, ej1, Int.toNat_natCast, deedEta, s1, s2, s3]
    rw [br_dt (by omega), br_dt (by omega), br_dt (by omega), br_dt (by omega), br_dt (by omega)]
    by_cases hc : deedCmp x c < 0
    · rw [br_dt hc, br_dt (by omega), br_dt (by omega), br_dt (by omega), br_dt (by omega), br_dt (by omega), br_dt (by omega), br_dt (by omega), br_dt (by omega)]
      have := ih (c :: M) K (by omega) (by simp only [List.length_cons]; omega)
      rw [List.cons_append] at this
      refine this.trans ?_
      have e : insD x (c :: r) = c :: insD x r := by rw [insD, if_pos hc]
      rw [e]
      simp
    · rw [br_df hc]
      have : insRow P (c :: r) x (M ++ Q) = P ++ ((insD x (c :: r)).reverse ++ (M ++ Q)) := by
        rw [insD, if_neg hc]
        simp [insRow]
      rw [this]
/-- ahead of round i -/
def insAt (l : List Deed) (a i : Nat) : List Deed := l.take a ++ ((sortR ((l.drop a).take (i - a))).reverse ++ l.drop i)
theorem v_insSort : Valid Try.prog n_insSort (c_insSort n_ordLess) := by
  refine valid_fn mixed hf_insSort (by kernel_rfl) rfl (ts := tmpsOf f_insSort.results.toList) (by kernel_rfl) (cfg := cfgW g_insSort) tt_ok (Γok_cons v_ordLess Γok_nil) insSort_tm (c_insSort n_ordLess) (by kernel_rfl) (fun x r u h => by
    obtain ⟨h1, h2⟩ := grd_some h
    simp only [Bool.and_eq_true, decide_eq_true_eq] at h1
    cases h2
    exact ⟨sortSeg_len _ h1.2.1 h1.2.2.1 (by omega), ⟨⟩⟩) ?_
  rintro ⟨⟨(l : List Deed), (n : Nat)⟩, (a : Int), (b : Int), ⟨⟩, ⟨⟩⟩ r u h
  obtain ⟨h1, h2⟩ := grd_some h
  simp only [Bool.and_eq_true, decide_eq_true_eq] at h1
  obtain ⟨g1, g2, g3, g4, g5⟩ := h1
  try dsimp only at g1 g2 g3 g4 g5
  refine ⟨1010, (insSort_rn _ _ _ _ _).trans (Eq.trans ?_ (congrArg some h2))⟩
  show insSort_P 1010 (l, n) a b () = some ((), (sortSeg l a b, (), (), (), ()))
  unfold insSort_P
  subst g1
  rw [wrapI (by omega) (by omega)]
  obtain ⟨A, rfl⟩ : ∃ k : Nat, a = (k : Int) := ⟨a.toNat, by omega⟩
  obtain ⟨B, rfl⟩ : ∃ k : Nat, b = (k : Int) := ⟨b.toNat, by omega⟩
  by_cases hAB : A = B
  · subst hAB
    rw [sortSeg_none _ (by omega)]
    show insSort_L2 1010 _ _ = _
    simp only [insSort_L2]
    rw [br_df (by omega)]
  have hstep : ∀ i, A < i → i < B → ∀ rec, insSort_L2 1010 rec ((insAt l A i, l.length), (A : Int), (B : Int), (), (i : Int), ()) = rec ((insAt l A (i + 1), l.length), (A : Int), (B : Int), (), ((i + 1 : Nat) : Int), ()) := by
    intro i hi1 hi2 rec
    simp only [insSort_L2]
    rw [br_dt (by omega)]
    have hP : (l.take A).length = A := by rw [List.length_take]; omega
    have hr : (sortR ((l.drop A).take (i - A))).length = i - A := by rw [sortR_len, List.length_take, List.length_drop]; omega
    have hx : l.drop i = l.getD i (false, 0, [], []) :: l.drop (i + 1) := drop_cons l i _ (by omega)
    have e1 : insAt l A i = insRow (l.take A) (sortR ((l.drop A).take (i - A))) (l.getD i (false, 0, [], [])) ([] ++ l.drop (i + 1)) := by
      unfold insAt insRow
      rw [hx]; simp
    have e2 : insAt l A (i + 1) = l.take A ++ ((insD (l.getD i (false, 0, [], [])) (sortR ((l.drop A).take (i - A)))).reverse ++ ([] ++ l.drop (i + 1))) := by
      unfold insAt
      rw [show i + 1 - A = (i - A) + 1 by omega, take_snoc (l.drop A) (i - A) (false, 0, [], []) (by rw [List.length_drop]; omega), sortR_snoc]
      have : (l.drop A).getD (i - A) (false, 0, [], []) = l.getD i (false, 0, [], []) := by
        rw [List.getD_eq_getElem?_getD, List.getElem?_drop, List.getD_eq_getElem?_getD, show A + (i - A) = i by omega]
      rw [this, List.nil_append]
    have := ins_inner rec (l.take A) (l.getD i (false, 0, [], [])) (l.drop (i + 1)) l.length (B : Int) (i : Int) (by omega) (sortR ((l.drop A).take (i - A))) [] 1010 (by omega) (by rw [hP, hr, List.length_drop]; simp; omega)
    rw [e1, e2]
    rw [hP, hr, show A + (i - A) = i by omega, wrapI (n := (i : Int) + 1) (by omega) (by omega)] at this
    exact this
  have hA : insAt l A (A + 1) = l := by
    unfold insAt
    rw [show A + 1 - A = 0 + 1 by omega, take_snoc (l.drop A) 0 (false, 0, [], []) (by rw [List.length_drop]; omega), List.take_zero, List.nil_append]
    have : (l.drop A).getD 0 (false, 0, [], []) = l.getD A (false, 0, [], []) := by
      rw [List.getD_eq_getElem?_getD, List.getElem?_drop, List.getD_eq_getElem?_getD, Nat.add_zero]
    rw [this]
    show l.take A ++ ([l.getD A _] ++ l.drop (A + 1)) = l
    rw [List.singleton_append, ← drop_cons l A _ (by omega), List.take_append_drop]
  have := loopN_for (step := insSort_L2 1010) (B - A - 1) (fun k => ((insAt l A (A + 1 + k), l.length), (A : Int), (B : Int), (), ((A + 1 + k : Nat) : Int), ())) (res := some ((), (sortSeg l A B, (), (), (), ()))) (fun k hk rec => by
    have := hstep (A + 1 + k) (by omega) (by omega) rec
    exact this) (fun rec => by
    simp only [insSort_L2]
    rw [br_df (by omega), show A + 1 + (B - A - 1) = B by omega]
    have : insAt l A B = sortSeg l A B := by
      unfold insAt sortSeg sortD
      rw [show ((B : Int) - (A : Int)).toNat = B - A by omega]
      rfl
    rw [this]) 1010 (by omega)
  rw [Nat.add_zero, hA] at this
  exact this
theorem v_symMerge : Valid Try.prog n_symMerge (c_symMerge n_ordLess) := by
  refine valid_fn mixed hf_symMerge (by kernel_rfl) rfl (ts := tmpsOf f_symMerge.results.toList) (by kernel_rfl) (cfg := cfgW []) tt_ok Γok_nil [] (c_symMerge n_ordLess) (by kernel_rfl) (fun x r u h => by cases h) fun x r u h => by cases h
theorem v_stable : Valid Try.prog n_stable (c_stable n_ordLess) := by
  refine valid_fn mixed hf_stable (by kernel_rfl) rfl (ts := tmpsOf f_stable.results.toList) (by kernel_rfl) (cfg := cfgW g_stable) tt_ok (Γok_cons v_insSort (Γok_cons v_symMerge Γok_nil)) stable_tm (c_stable n_ordLess) (by kernel_rfl) (fun x r u h => by
    obtain ⟨h1, h2⟩ := grd_some h
    cases h2
    exact ⟨sortD_len _, ⟨⟩⟩) ?_
  rintro ⟨⟨(l : List Deed), (n : Nat)⟩, (m : Int), ⟨⟩, ⟨⟩⟩ r u h
  obtain ⟨h1, h2⟩ := grd_some h
  simp only [Bool.and_eq_true, decide_eq_true_eq] at h1
  obtain ⟨g1, g2, g3⟩ := h1
  try dsimp only at g1 g2 g3
  refine ⟨10, (stable_rn _ _ _ _).trans (Eq.trans ?_ (congrArg some h2))⟩
  show stable_P 10 (l, n) m () = some ((), (sortD l, (), (), ()))
  subst g1
  subst g2
  unfold stable_P
  have hend : ∀ y6, (l.length : Int) ≤ y6 → ∀ l', loopN (stable_L2 10) 10 ((l', l.length), (l.length : Int), (), y6, ()) = some ((), (l', (), (), ())) := by
    intro y6 hy l'
    show stable_L2 10 _ _ = _
    simp only [stable_L2]
    rw [br_df (by omega)]
  show stable_L3 10 _ _ = _
  simp only [stable_L3]
  by_cases h20 : l.length = 20
  · rw [br_dt (by omega), bd_grd (by simp; omega)]
    show stable_L3 10 _ _ = _
    simp only [stable_L3]
    have hl : (sortSeg l 0 20).length = l.length := sortSeg_len l (by decide) (by decide) (by omega)
    rw [br_df (by rw [h20]; decide), bd_grd (and_t (decide_eq_true hl.symm) (and_t (by decide) (and_t (decide_eq_true (by omega)) (and_t (decide_eq_true (by omega)) (decide_eq_true (by omega))))))]
    refine (hend 20 (by omega) _).trans ?_
    have : sortSeg (sortSeg l 0 20) 20 (l.length : Int) = sortD l := by
      rw [h20]
      show sortSeg (sortSeg l 0 20) 20 20 = _
      rw [sortSeg_none _ (by decide)]
      have := sortSeg_all l
      rw [h20] at this
      exact this
    rw [this]
  · rw [br_df (by omega), bd_grd (by simp; omega)]
    refine (hend 20 (by omega) _).trans ?_
    rw [sortSeg_all]
theorem v_sortStable : Valid Try.prog n_sortStable (c_sortStable n_ordLess) := by
  refine valid_fn mixed hf_sortStable (by kernel_rfl) rfl (ts := tmpsOf f_sortStable.results.toList) (by kernel_rfl) (cfg := cfgW g_sortStable) tt_ok (Γok_cons v_stable Γok_nil) sortStable_tm (c_sortStable n_ordLess) (by kernel_rfl) (fun x r u h => by
    obtain ⟨h1, h2⟩ := grd_some h
    cases h2
    exact ⟨sortD_len _, ⟨⟩⟩) ?_
  rintro ⟨⟨(l : List Deed), (n : Nat)⟩, ⟨⟩, ⟨⟩⟩ r u h
  obtain ⟨h1, h2⟩ := grd_some h
  simp only [Bool.and_eq_true, decide_eq_true_eq] at h1
  refine ⟨0, (sortStable_rn _ _ _).trans (Eq.trans ?_ (congrArg some h2))⟩
  show sortStable_P 0 (l, n) () = some ((), (sortD l, (), ()))
  unfold sortStable_P
  rw [bd_grd (and_t (decide_eq_true h1.1) (and_t (decide_eq_true rfl) (decide_eq_true h1.2)))]
theorem v_forder : Valid Try.prog n_forder c_forder := by
  refine valid_fn mixed hf_forder (by kernel_rfl) rfl (ts := tmpsOf f_forder.results.toList) (by kernel_rfl) (cfg := cfgW g_forder) tt_ok (Γok_cons v_own (Γok_cons v_sortStable Γok_nil)) forder_tm c_forder (by kernel_rfl) (fun _ _ _ _ => ⟨⟩) ?_
  rintro ⟨(l : List Deed), ⟨⟩⟩ r u h
  obtain ⟨h1, h2⟩ := grd_some h
  simp only [Bool.and_eq_true, decide_eq_true_eq, List.all_eq_true] at h1
  obtain ⟨g1, g2⟩ := h1
  try dsimp only at g1 g2
  refine ⟨30, (forder_rn _ _).trans (Eq.trans ?_ (congrArg some h2))⟩
  show forder_P 30 l = some ((sortD l, ()), ((), ()))
  unfold forder_P
  rw [Int.toNat_natCast, br_dt (by omega), br_dt (lim_mul (by omega) (by decide)), br_dt (lim_le (by omega))]
  have := loopN_for (step := forder_L1) l.length (fun i => (l.take i ++ List.replicate (l.length - i) (false, 0, [], []), l, (l.length : Int), (i : Int), ())) (res := some ((sortD l, ()), ((), ()))) (fun i hi rec => ?_) (fun rec => ?_) 30 (by omega)
  · simpa using this
  · simp only [forder_L1, Int.toNat_natCast, deedEta]
    have hm := g2 _ (mem_getD (z := ((false, 0, [], []) : Deed)) hi)
    have hlen : (l.take i ++ List.replicate (l.length - i) ((false, 0, [], []) : Deed)).length = l.length := by simp; omega
    rw [br_dt (by omega), br_dt (by omega), br_dt (by omega), bd_grd hm, br_dt (by omega), br_dt (by omega), wrapI (by omega) (by omega)]
    simp only [deedEta]
    have : (l.take i ++ List.replicate (l.length - i) ((false, 0, [], []) : Deed)).set i (l.getD i (false, 0, [], [])) = l.take (i + 1) ++ List.replicate (l.length - (i + 1)) (false, 0, [], []) := by
      rw [List.set_append_right _ _ (by simp; omega), take_snoc l i (false, 0, [], []) hi, show l.length - i = (l.length - (i + 1)) + 1 by omega, List.replicate_succ]
      have : i - (l.take i).length = 0 := by simp; omega
      rw [this]
      simp
    rw [this]
    rfl
  · simp only [forder_L1]
    rw [Nat.sub_self, List.take_length, List.replicate_zero, List.append_nil]
    rw [br_df (by omega), bd_grd (by simp; omega)]
theorem v_fnew : Valid Try.prog n_fnew c_fnew := by
  refine valid_fn mixed hf_fnew (by kernel_rfl) rfl (ts := tmpsOf f_fnew.results.toList) (by kernel_rfl) (cfg := cfgW g_fnew) tt_ok Γok_nil fnew_tm c_fnew (by kernel_rfl) (fun _ _ _ _ => ⟨⟩) ?_
  rintro ⟨⟩ r u h
  exact ⟨0, (fnew_rn _).trans h⟩
theorem v_fget : Valid Try.prog n_fget c_fget := by
  refine valid_fn mixed hf_fget (by kernel_rfl) rfl (ts := tmpsOf f_fget.results.toList) (by kernel_rfl) (cfg := cfgW g_fget) tt_ok Γok_nil fget_tm c_fget (by kernel_rfl) (fun _ _ _ _ => ⟨⟩) ?_
  rintro ⟨(⟨m, ⟨⟩⟩ : Regs × Unit), (k : Key), ⟨⟩⟩ r u h
  exact ⟨0, (fget_rn _ _ _).trans h⟩
theorem v_fset : Valid Try.prog n_fset c_fset := by
  refine valid_fn mixed hf_fset (by kernel_rfl) rfl (ts := tmpsOf f_fset.results.toList) (by kernel_rfl) (cfg := cfgW g_fset) tt_ok (Γok_cons v_ckey Γok_nil) fset_tm c_fset (by kernel_rfl) (fun _ _ _ _ => ⟨⟩) ?_
  rintro ⟨(⟨m, ⟨⟩⟩ : Regs × Unit), (l : List Cel), ⟨⟩⟩ r u h
  obtain ⟨h1, h2⟩ := grd_some h
  have hl := lenOk_lt h1
  dsimp only at hl
  refine ⟨l.length + 1, (fset_rn _ _ _).trans (Eq.trans ?_ (congrArg some h2))⟩
  show fset_P (l.length + 1) (m, ()) l = some ((), ((setF m l, ()), (), ()))
  unfold fset_P
  refine loopN_for (step := fset_L1) l.length (fun i => ((setF m (l.take i), ()), l, (l.length : Int), (i : Int), ())) (fun i hi rec => ?_) (fun rec => ?_) (l.length + 1) (by omega)
  · simp only [fset_L1, Int.toNat_natCast]
    rw [br_dt (by omega), br_dt (by omega), br_dt (by omega), wrapI (by omega) (by omega), take_snoc l i ((0, 0), 0) hi]
    generalize l.getD i ((0, 0), 0) = c
    have e : setF m (l.take i ++ [c]) = if keyR c.1 then mset eqK (setF m (l.take i)) c.1 c.2 else setF m (l.take i) := by simp [setF]
    rw [e]
    show br (keyR c.1) _ _ = _
    cases hk : keyR c.1 with
    | true => rw [br_t rfl, if_pos rfl]; rfl
    | false => rw [br_f rfl, if_neg (by decide)]; rfl
  · simp only [fset_L1]
    rw [br_df (by omega), List.take_length]
theorem v_awake27 : Valid Try.prog n_awake27 c_awake27 := by
  refine valid_fn mixed hf_awake27 (by kernel_rfl) rfl (ts := tmpsOf f_awake27.results.toList) (by kernel_rfl) (cfg := cfgW g_awake27) tt_ok (Γok_cons v_forder (Γok_cons v_fnew (Γok_cons v_fset (Γok_cons v_fget Γok_nil)))) [] c_awake27 (by kernel_rfl) (fun _ _ _ _ => ⟨⟩) ?_
  rintro ⟨⟩ r u h
  exact ⟨3, awake27_rn.trans h⟩
end Go.BB
