/- A symbolic machine for the model's code, and what it shows of this seat's functions. No conditions. -/
import Derived.Test.YtnofmeckcimodaaDN
import Derived.Test.YtnofmeckcimodaaDGfdv
import Derived.Test.YtnofmeckcimodaaDVbuff
import Derived.Test.YtnofmeckcimodaaDVfdo2
import Derived.Test.YtnofmeckcimodaaDGfdg
set_option linter.unusedSimpArgs false
set_option linter.unusedVariables false
namespace Go.BB
open Go Go.Proofs
set_option maxRecDepth 100000
set_option exponentiation.threshold 100000
noncomputable section
end
end Go.BB
set_option linter.unusedVariables false
namespace Go.BB
open Go Go.Proofs
set_option maxRecDepth 100000
set_option exponentiation.threshold 100000
noncomputable section
abbrev g_ckey : List (Nat × Ctr O0) := []
def ckey_tm : List Tm := []
def ckey_P (K : Nat) (a0 : Int × Int) : Option ((Bool × Unit) × Unit × Unit) := br (decide (a0.1 ≥ (0 : Int))) (br (decide (a0.1 < (4 : Int))) (br (decide (a0.2 ≥ (0 : Int))) (some ((decide (a0.2 < (65536 : Int)), ()), (), ())) (some ((false, ()), (), ()))) (some ((false, ()), (), ()))) (some ((false, ()), (), ()))
theorem ckey_rn (K : Nat) (a0 : Int × Int) : runF (cfgW g_ckey) K f_ckey ckey_tm [.val tKey] [.val .bool] (a0, ()) = ckey_P K a0 := by kernel_rfl
end
end Go.BB
set_option linter.unusedVariables false
namespace Go.BB
open Go Go.Proofs
set_option maxRecDepth 100000
set_option exponentiation.threshold 100000
noncomputable section
end
end Go.BB
set_option linter.unusedSimpArgs false
set_option linter.unusedVariables false
namespace Go.BB
open Go Go.Proofs
set_option maxRecDepth 100000
end Go.BB
/-! plain lemmas on stores -/
namespace Go.BB
open Go
/-! what is so of each store -/
structure StoOk (s : Sto) : Prop where
  u : 0 ≤ s.1 ∧ s.1 ≤ 18446744073709551615
  n : 0 ≤ s.2.1 ∧ s.2.1 ≤ s.2.2.1
  most : s.2.2.1 ≤ 1048576
  few : s.2.1 ≤ 500000
  len : (chsLen s.2.2.2.1 : Int) = s.2.1
  rows : ∀ p ∈ s.2.2.2.1, rightFrom 0 p.2 = true ∧ newS p.2 ≤ s.1
end Go.BB
set_option linter.unusedSimpArgs false
set_option linter.unusedVariables false
namespace Go.BB
open Go Go.Proofs
set_option maxRecDepth 100000
theorem v_ckey : Valid Try.prog n_ckey c_ckey := by
  refine valid_fn mixed hf_ckey (by kernel_rfl) rfl (ts := tmpsOf f_ckey.results.toList) (by kernel_rfl) (cfg := cfgW g_ckey) tt_ok Γok_nil ckey_tm c_ckey (by kernel_rfl) (fun _ _ _ _ => ⟨⟩) ?_
  rintro ⟨(k : Key), ⟨⟩⟩ r u h
  refine ⟨0, (ckey_rn _ _).trans (Eq.trans ?_ h)⟩
  show ckey_P 0 k = some ((keyR k, ()), ((), ()))
  unfold ckey_P keyR
  simp only [br_ite, ge_iff_le]
  by_cases h1 : 0 ≤ k.1 <;> by_cases h2 : k.1 < 4 <;> by_cases h3 : 0 ≤ k.2 <;> simp [h1, h2, h3]
end Go.BB
/-! plain lemmas on the document's stores -/
namespace Go.BB
open Go
/-! what is so of each of the document's stores -/
structure RefOk (x : Ref) : Prop where
  u : 0 ≤ x.1 ∧ x.1 ≤ 18446744073709551615
  most : x.2.1 ≤ 1048576
  len : (chsLen x.2.2.1 : Int) ≤ x.2.1
  few : chsLen x.2.2.1 ≤ 500000
  srt : srtR x.2.2.1 = true
  rowsN : x.2.2.1.length ≤ 262144
  rows : ∀ p ∈ x.2.2.1, p.2 ≠ [] ∧ rightFrom 0 p.2 = true ∧ newS p.2 ≤ x.1
end Go.BB
set_option linter.unusedSimpArgs false
set_option linter.unusedVariables false
namespace Go.BB
open Go Go.Proofs
set_option maxRecDepth 100000
end Go.BB
set_option linter.unusedSimpArgs false
set_option linter.unusedVariables false
namespace Go.BB
open Go Go.Proofs
set_option maxRecDepth 100000
theorem askOk_at {a : AskT} (h : askOk a = true) : knownS a.1 = true ∧ 0 ≤ a.2.1 ∧ a.2.1 ≤ 65535 ∧ 0 ≤ aRAt a ∧ aRAt a ≤ 65535 ∧ sizeA a = true := by
  unfold askOk placeN at h
  simp only [Bool.and_eq_true, decide_eq_true_eq] at h
  obtain ⟨h1, _, ⟨h2, h3⟩, ⟨h4, h5⟩, h6⟩ := h
  exact ⟨h1, h2, h3, h4, h5, h6⟩
theorem v_r21Cells : Valid Try.prog n_r21Cells c_r21Cells := by
  refine valid_fn mixed hf_r21Cells (by kernel_rfl) rfl (ts := tmpsOf f_r21Cells.results.toList) (by kernel_rfl) (cfg := cfgW g_r21Cells) tt_ok (Γok_cons v_r5Right (Γok_cons v_r1Table (Γok_cons v_rlay Γok_nil))) r21Cells_tm c_r21Cells (by kernel_rfl) (fun _ _ _ _ => ⟨⟩) ?_
  rintro ⟨(a : AskT), (was : Int), ⟨⟩⟩ r u h
  obtain ⟨h1, h2⟩ := grd_some h
  unfold askLen at h1
  simp only [Bool.and_eq_true] at h1
  obtain ⟨g1, g2⟩ := h1
  have k1 := lenOk_lt g1
  have k2 := lenOk_lt g2
  refine ⟨(aBits a).length + 1, (r21Cells_rn _ _ _).trans (Eq.trans ?_ (congrArg some h2))⟩
  show r21Cells_P ((aBits a).length + 1) a was = some ((cellsA a was, ()), ((), (), ()))
  unfold r21Cells_P cellsA
  simp only [askEta]
  cases hk : askOk a with
  | false => rfl
  | true =>
    obtain ⟨q1, q2, q3, q4, q5, q6⟩ := askOk_at hk
    obtain ⟨f, at1, n, v, an, o, bs, ws, ra, rn, c, ob⟩ := a
    dsimp only [aBits, aWords] at g1 g2 k1 k2 q1 q2 q3 ⊢
    have hat : ∀ l : List Int, lenOk l = true → (lenOk l && (decide ((-9223372036854775808 : Int) ≤ at1) && decide (at1 ≤ (9223372036853775807 : Int)))) = true := fun l hl => and_t hl (and_t (decide_eq_true (by omega)) (decide_eq_true (by omega)))
    rcases (known_iff f).1 q1 with rfl | rfl | rfl | rfl | rfl | rfl | rfl | rfl | rfl | rfl | rfl
    · rfl
    · rfl
    · rfl
    · rfl
    · show bd (grd _ _) _ = _
      rw [bd_grd (hat _ rfl)]; rfl
    · show bd (grd _ _) _ = _
      rw [bd_grd (hat _ rfl)]; rfl
    · show loopN r21Cells_L1 _ _ = _
      refine loopN_for (step := r21Cells_L1) bs.length (fun i => ((15, at1, n, v, an, o, bs, ws, ra, rn, c, ob, ()), ((tabS 15).1, at1, ()), (bs.take i).map bitN, (i : Int), ())) (fun i hi rec => ?_) (fun rec => ?_) (bs.length + 1) (by omega)
      · simp only [r21Cells_L1, Int.toNat_natCast]
        have e : ((bs.take i).map bitN).length = i := by rw [List.length_map, List.length_take]; omega
        rw [br_dt (by omega), br_dt (by omega), br_dt (by omega), wrapI (by omega) (by omega), take_snoc bs i false hi, List.map_append]
        cases bs.getD i false with
        | true =>
          rw [br_t rfl, br_dt (by rw [e]; simp only [List.length_singleton, LIM]; omega), br_dt (by rw [e]; simp only [List.length_singleton, LIM]; omega)]
          rfl
        | false =>
          rw [br_f rfl, br_dt (by rw [e]; simp only [List.length_singleton, LIM]; omega), br_dt (by rw [e]; simp only [List.length_singleton, LIM]; omega)]
          rfl
      · simp only [r21Cells_L1]
        rw [br_df (by omega), List.take_length, bd_grd (hat _ (lenOk_of (by rw [List.length_map]; omega)))]
        rfl
    · show bd (grd _ _) _ = _
      rw [bd_grd (hat _ g2)]; rfl
    · show bd (grd _ _) _ = _
      rw [bd_grd (hat _ rfl)]; rfl
    · show bd (grd _ _) _ = _
      rw [bd_grd (hat _ g2)]; rfl
    · rfl
end Go.BB
set_option linter.unusedSimpArgs false
set_option linter.unusedVariables false
namespace Go.BB
open Go Go.Proofs
set_option maxRecDepth 100000
abbrev DoRes := Option ((TellT × Bool × Unit) × (List Cel × Unit) × Unit × Unit)
theorem brNTb {α : Type} {x y : α} : br (!true) x y = y := rfl
def doNo (m : List Cel) : DoRes := some ((((0 : Int), (0 : Int), [], [], (0 : Int), (0 : Int), (0 : Int), (0 : Int), (0 : Int), (0 : Int), (0 : Int), false, (0 : Int), []), false, ()), (m, ()), (), ())
/-- what is done, and told -/
def rfT (K : Nat) (m : List Cel) (a : AskT) : DoRes :=
  bd (grd (lenOk m && bufS m) (((getK m ((tabS a.1).1, a.2.1)).1, ()), (m, ()), (), ()))
  fun (x1 : (Int × Unit) × (List ((Int × Int) × Int) × Unit) × Unit × Unit) =>
  bd (grd (askLen a) ((cellsA a x1.1.1, ()), (), (), ()))
  fun (x2 : (List ((Int × Int) × Int) × Unit) × Unit × Unit × Unit) =>
  bd (grd (decide (x1.2.1.1.length ≤ (500000 : Nat)) && (bufS x1.2.1.1 && decide (x2.1.1.length ≤ (100000 : Nat)))) ((), (setR x1.2.1.1 x2.1.1, ()), (), ()))
  fun (x3 : Unit × (List ((Int × Int) × Int) × Unit) × Unit × Unit) =>
  br ((↑(spansA a).1.length : Int) == (0 : Int)) (some ((echoA a, true, ()), (x3.2.1.1, ()), (), ()))
  (br (decide ((0 : Int) < (↑(spansA a).1.length : Int)))
    (loopN rfdo_L1 K ((x3.2.1.1, ()), (a.1, a.2.1, a.2.2.1, a.2.2.2.1, a.2.2.2.2.1, a.2.2.2.2.2.1, a.2.2.2.2.2.2.1, a.2.2.2.2.2.2.2.1, a.2.2.2.2.2.2.2.2.1, a.2.2.2.2.2.2.2.2.2.1, a.2.2.2.2.2.2.2.2.2.2.1, a.2.2.2.2.2.2.2.2.2.2.2, ()),
      ((0 : Int), (0 : Int), (), (), (0 : Int), (0 : Int), (0 : Int), (0 : Int), (0 : Int), (0 : Int), (0 : Int), false, (0 : Int), (), ()), (spansA a).1, (tabS a.1).1, [], ((spansA a).1.getD (Int.toNat 0) ((0 : Int), (0 : Int), (0 : Int))).2.1, ())) none)
def rfW (K : Nat) (m : List Cel) (a : AskT) : DoRes :=
  br (decide ((↑(spansA a).2.length : Int) > (0 : Int))) (br (decide ((0 : Int) < (↑(spansA a).2.length : Int))) (br (!spanR ((spansA a).2.getD (Int.toNat 0) ((0 : Int), (0 : Int), (0 : Int)))) (doNo m) (rfT K m a)) none) (rfT K m a)
theorem rfdo_eq (K : Nat) (m : List Cel) (a : AskT) : rfdo_P K (m, ()) a = br (!askOk a) (doNo m) (br (a.1 == (43 : Int)) (doNo m)
    (br (decide ((↑(spansA a).1.length : Int) > (0 : Int))) (br (decide ((0 : Int) < (↑(spansA a).1.length : Int))) (br (!spanR ((spansA a).1.getD (Int.toNat 0) ((0 : Int), (0 : Int), (0 : Int)))) (doNo m) (rfW K m a)) none) (rfW K m a))) := by kernel_rfl
theorem spansA_ok {a : AskT} (h : askOk a = true) : (spansA a = ([], []) ∨ (∃ s t, spansA a = ([s], [t]) ∧ s.1 = (tabS a.1).1 ∧ 0 ≤ s.2.1 ∧ s.2.1 ≤ 65535 ∧ s.2.1 ≤ s.2.2 ∧ s.2.2 ≤ s.2.1 + 2000) ∨ (∃ t, spansA a = ([], [t])) ∨ (∃ s, spansA a = ([s], []) ∧ s.1 = (tabS a.1).1 ∧ 0 ≤ s.2.1 ∧ s.2.1 ≤ 65535 ∧ s.2.1 ≤ s.2.2 ∧ s.2.2 ≤ s.2.1 + 2000)) := by
  have h0 := askOk_at h
  obtain ⟨q1, q2, q3, q4, q5, q6⟩ := h0
  have e : spansA a = if aFn a = 1 ∨ aFn a = 2 ∨ aFn a = 3 ∨ aFn a = 4 then ([((tabS (aFn a)).1, aAt a, aAt a + aN a)], [])
    else if aFn a = 5 ∨ aFn a = 6 ∨ aFn a = 22 then ([], [((tabS (aFn a)).1, aAt a, aAt a + 1)])
    else if aFn a = 15 ∨ aFn a = 16 then ([], [((tabS (aFn a)).1, aAt a, aAt a + aN a)])
    else if aFn a = 23 then ([((tabS (aFn a)).1, aRAt a, aRAt a + aRN a)], [((tabS (aFn a)).1, aAt a, aAt a + aN a)])
    else ([], []) := by
    unfold spansA
    rw [if_neg (by rw [h]; decide)]
  rw [e]
  obtain ⟨f, at1, n, v, an, o, bs, ws, ra, rn, c, ob⟩ := a
  unfold sizeA inN at q6
  dsimp only [aFn, aAt, aN, aRAt, aRN] at q1 q2 q3 q4 q5 q6 ⊢
  rcases (known_iff f).1 q1 with rfl | rfl | rfl | rfl | rfl | rfl | rfl | rfl | rfl | rfl | rfl
  all_goals simp at q6
  all_goals first
    | exact .inl rfl
    | exact .inr (.inr (.inl ⟨_, rfl⟩))
    | exact .inr (.inr (.inr ⟨_, rfl, rfl, q2, q3, by show at1 ≤ at1 + n; omega, by show at1 + n ≤ at1 + 2000; omega⟩))
    | exact .inr (.inl ⟨_, _, rfl, rfl, q4, q5, by show ra ≤ ra + rn; omega, by show ra + rn ≤ ra + 2000; omega⟩)
theorem rfdo_loop (K : Nat) (hK : 2000 < K) {m : List Cel} (hm : bufS m = true) (hl : m.length < 1000000) (a : AskT) (s : Spn) (h1 : s.1 = (tabS a.1).1) (h2 : 0 ≤ s.2.1) (h3 : s.2.1 ≤ 65535) (h4 : s.2.1 ≤ s.2.2) (h5 : s.2.2 ≤ s.2.1 + 2000) :
    loopN rfdo_L1 K ((m, ()), (a.1, a.2.1, a.2.2.1, a.2.2.2.1, a.2.2.2.2.1, a.2.2.2.2.2.1, a.2.2.2.2.2.2.1, a.2.2.2.2.2.2.2.1, a.2.2.2.2.2.2.2.2.1, a.2.2.2.2.2.2.2.2.2.1, a.2.2.2.2.2.2.2.2.2.2.1, a.2.2.2.2.2.2.2.2.2.2.2, ()),
      ((0 : Int), (0 : Int), (), (), (0 : Int), (0 : Int), (0 : Int), (0 : Int), (0 : Int), (0 : Int), (0 : Int), false, (0 : Int), (), ()), [s], (tabS a.1).1, [], s.2.1, ()) = (some ((shownA a (valsR m s), true, ()), (m, ()), (), ()) : DoRes) := by
  have := loopN_for (step := rfdo_L1) (s.2.2 - s.2.1).toNat (fun i => ((m, ()), (a.1, a.2.1, a.2.2.1, a.2.2.2.1, a.2.2.2.2.1, a.2.2.2.2.2.1, a.2.2.2.2.2.2.1, a.2.2.2.2.2.2.2.1, a.2.2.2.2.2.2.2.2.1, a.2.2.2.2.2.2.2.2.2.1, a.2.2.2.2.2.2.2.2.2.2.1, a.2.2.2.2.2.2.2.2.2.2.2, ()),
      ((0 : Int), (0 : Int), (), (), (0 : Int), (0 : Int), (0 : Int), (0 : Int), (0 : Int), (0 : Int), (0 : Int), false, (0 : Int), (), ()), [s], (tabS a.1).1, (List.range i).map (fun (j : Nat) => (getK m (s.1, s.2.1 + (j : Int))).1), s.2.1 + (i : Int), ())) (res := (some ((shownA a (valsR m s), true, ()), (m, ()), (), ()) : DoRes)) (fun i hi rec => ?_) (fun rec => ?_) K (by omega)
  · have e : s.2.1 + ((0 : Nat) : Int) = s.2.1 := by omega
    simpa [e] using this
  · have hs : ([s] : List Spn).getD (Int.toNat 0) (0, 0, 0) = s := rfl
    have hone : (0 : Int) < ((([s] : List Spn).length : Nat) : Int) := by simp
    have e : ((List.range i).map (fun (j : Nat) => (getK m (s.1, s.2.1 + (j : Int))).1)).length = i := by simp
    simp only [rfdo_L1, hs]
    rw [br_dt hone, br_dt (by omega), bd_grd (and_t (lenOk_of hl) hm)]
    simp only
    rw [br_dt (by rw [e]; simp only [List.length_singleton, LIM]; omega), br_dt (by rw [e]; simp only [List.length_singleton, LIM]; omega), wrapI (by omega) (by omega)]
    have e2 : (List.range (i + 1)).map (fun (j : Nat) => (getK m (s.1, s.2.1 + (j : Int))).1) = cat ((List.range i).map (fun (j : Nat) => (getK m (s.1, s.2.1 + (j : Int))).1)) [(getK m ((tabS a.1).1, s.2.1 + (i : Int))).1] := by
      rw [List.range_succ, List.map_append, h1]; rfl
    rw [e2, show s.2.1 + ((i + 1 : Nat) : Int) = s.2.1 + (i : Int) + 1 by push_cast; omega]
  · have hs : ([s] : List Spn).getD (Int.toNat 0) (0, 0, 0) = s := rfl
    have hone : (0 : Int) < ((([s] : List Spn).length : Nat) : Int) := by simp
    simp only [rfdo_L1, hs]
    rw [br_dt hone, br_df (by omega), bd_grd (lenOk_of (by simp; omega))]
    rfl
theorem cellsA_len (a : AskT) (was : Int) : (cellsA a was).length ≤ max (max (aBits a).length (aWords a).length) 1 := by
  unfold cellsA
  split
  · simp
  · split
    · rw [layFrom_len, List.length_singleton]; omega
    · split
      · rw [layFrom_len, List.length_map]; omega
      · split
        · rw [layFrom_len]; omega
        · split
          · rw [layFrom_len, List.length_singleton]; omega
          · simp
theorem v_rfdo : Valid Try.prog n_rfdo c_rfdo := by
  refine valid_fnc mixed hf_rfdo (by kernel_rfl) rfl (cfg := cfgW g_rfdo) tt_ok (Γok_cons v_r5Spans (Γok_cons v_r5Right (Γok_cons v_rspanRight (Γok_cons v_r1Table (Γok_cons v_rfget (Γok_cons v_r21Cells (Γok_cons v_rfset (Γok_cons v_r5Echo (Γok_cons v_shown Γok_nil))))))))) rfdo_tm c_rfdo (by kernel_rfl) (fun _ _ _ _ => ⟨⟩) ?_
  rintro ⟨(⟨m, ⟨⟩⟩ : List Cel × Unit), (a : AskT), ⟨⟩⟩ r u h
  obtain ⟨h1, h2⟩ := grd_some h
  simp only [Bool.and_eq_true, decide_eq_true_eq] at h1
  obtain ⟨g1, g2, g3, g4, g5⟩ := h1
  refine ⟨3000, (rfdo_rn _ _ _).trans (Eq.trans ?_ (congrArg some h2))⟩
  show rfdo_P 3000 (m, ()) a = (some (((doR m a).1.1, (doR m a).1.2, ()), ((doR m a).2, ()), (), ()) : DoRes)
  rw [rfdo_eq]
  have hno : ∀ c : Prop, (askOk a = false ∨ aFn a = 43 ∨ (spansA a).1.any (fun s => !spanR s) ∨ (spansA a).2.any (fun s => !spanR s)) → doNo m = (some (((doR m a).1.1, (doR m a).1.2, ()), ((doR m a).2, ()), (), ()) : DoRes) := by
    intro _ hc
    unfold doR
    rw [if_pos hc]
    rfl
  cases hk : askOk a with
  | false => exact hno True (.inl hk)
  | true =>
    rw [brNTb]
    by_cases hf : a.1 = 43
    · rw [br_t (by rw [hf]; rfl)]
      exact hno True (.inr (.inl hf))
    rw [br_f (by simpa using hf)]
    have hc := cellsA_len a (getK m ((tabS a.1).1, a.2.1)).1
    obtain ⟨k1, k2⟩ := setR_ok (cellsA a (getK m ((tabS a.1).1, a.2.1)).1) m g2
    have hT : (∀ s, (spansA a).1 = [s] → s.1 = (tabS a.1).1 ∧ 0 ≤ s.2.1 ∧ s.2.1 ≤ 65535 ∧ s.2.1 ≤ s.2.2 ∧ s.2.2 ≤ s.2.1 + 2000) → ((spansA a).1 = [] ∨ ∃ s, (spansA a).1 = [s]) → (spansA a).1.any (fun s => !spanR s) = false → (spansA a).2.any (fun s => !spanR s) = false →
        rfT 3000 m a = (some (((doR m a).1.1, (doR m a).1.2, ()), ((doR m a).2, ()), (), ()) : DoRes) := by
      intro hs hor ha1 ha2
      unfold rfT doR
      rw [bd_grd (and_t (lenOk_of (by omega)) g2)]
      simp only
      rw [bd_grd g3]
      simp only
      rw [bd_grd (and_t (decide_eq_true (by omega)) (and_t g2 (decide_eq_true (by omega)))), if_neg (by rw [hk, ha1, ha2]; simp; exact hf)]
      rcases hor with hn | ⟨s, hn⟩
      · rw [hn]
        rfl
      · obtain ⟨z1, z2, z3, z4, z5⟩ := hs s hn
        rw [hn, br_f (by rfl), br_t (by rfl)]
        exact rfdo_loop 3000 (by omega) k1 (by omega) a s z1 z2 z3 z4 z5
    have hW : (∀ s, (spansA a).1 = [s] → s.1 = (tabS a.1).1 ∧ 0 ≤ s.2.1 ∧ s.2.1 ≤ 65535 ∧ s.2.1 ≤ s.2.2 ∧ s.2.2 ≤ s.2.1 + 2000) → ((spansA a).1 = [] ∨ ∃ s, (spansA a).1 = [s]) → (spansA a).1.any (fun s => !spanR s) = false → ((spansA a).2 = [] ∨ ∃ t, (spansA a).2 = [t]) →
        rfW 3000 m a = (some (((doR m a).1.1, (doR m a).1.2, ()), ((doR m a).2, ()), (), ()) : DoRes) := by
      intro hs hor ha1 hw
      unfold rfW
      rcases hw with hw | ⟨t, hw⟩
      · rw [hw]
        rw [br_f (by decide)]
        exact hT hs hor ha1 (by rw [hw]; rfl)
      · rw [hw, br_t (by rfl), br_t (by rfl)]
        show br (!spanR t) _ _ = _
        cases ht : spanR t with
        | false => exact hno True (.inr (.inr (.inr (by rw [hw]; simp [ht]))))
        | true => exact hT hs hor ha1 (by rw [hw]; simp [ht])
    have hR : (∀ s, (spansA a).1 = [s] → s.1 = (tabS a.1).1 ∧ 0 ≤ s.2.1 ∧ s.2.1 ≤ 65535 ∧ s.2.1 ≤ s.2.2 ∧ s.2.2 ≤ s.2.1 + 2000) → ((spansA a).1 = [] ∨ ∃ s, (spansA a).1 = [s]) → ((spansA a).2 = [] ∨ ∃ t, (spansA a).2 = [t]) →
        br (decide ((↑(spansA a).1.length : Int) > (0 : Int))) (br (decide ((0 : Int) < (↑(spansA a).1.length : Int))) (br (!spanR ((spansA a).1.getD (Int.toNat 0) ((0 : Int), (0 : Int), (0 : Int)))) (doNo m) (rfW 3000 m a)) none) (rfW 3000 m a) = (some (((doR m a).1.1, (doR m a).1.2, ()), ((doR m a).2, ()), (), ()) : DoRes) := by
      intro hs hor hw
      have hor2 := hor
      rcases hor2 with hn | ⟨s, hn⟩
      · rw [hn, br_f (by decide)]
        exact hW hs hor (by rw [hn]; rfl) hw
      · rw [hn, br_t (by rfl), br_t (by rfl)]
        show br (!spanR s) _ _ = _
        cases ht : spanR s with
        | false => exact hno True (.inr (.inr (.inl (by rw [hn]; simp [ht]))))
        | true => exact hW hs hor (by rw [hn]; simp [ht]) hw
    rcases spansA_ok hk with e | ⟨s, t, e, z⟩ | ⟨t, e⟩ | ⟨s, e, z⟩
    · exact hR (fun s hs => by rw [e] at hs; cases hs) (.inl (by rw [e])) (.inl (by rw [e]))
    · exact hR (fun s' hs => by rw [e] at hs; cases hs; exact z) (.inr ⟨s, by rw [e]⟩) (.inr ⟨t, by rw [e]⟩)
    · exact hR (fun s hs => by rw [e] at hs; cases hs) (.inl (by rw [e])) (.inr ⟨t, by rw [e]⟩)
    · exact hR (fun s' hs => by rw [e] at hs; cases hs; exact z) (.inr ⟨s, by rw [e]⟩) (.inl (by rw [e]))
end Go.BB
set_option linter.unusedSimpArgs false
set_option linter.unusedVariables false
/-! plain lemmas on stores: what is installed keeps a store right -/
namespace Go.BB
open Go
/-! cells made by numbers may be -/
end Go.BB
set_option linter.unusedSimpArgs false
set_option linter.unusedVariables false
/-! plain lemmas on deeds in order -/
namespace Go.BB
open Go
theorem sortR_snoc (l : List Deed) (x : Deed) : sortR (l ++ [x]) = insD x (sortR l) := by simp [sortR]
theorem insD_len (x : Deed) : ∀ r, (insD x r).length = r.length + 1
  | [] => rfl
  | a :: r => by
    unfold insD
    split
    · simp [insD_len x r]
    · simp
theorem sortR_len (l : List Deed) : (sortR l).length = l.length := by
  have : ∀ (l : List Deed) (r : List Deed), (l.foldl (fun r x => insD x r) r).length = r.length + l.length := by
    intro l
    induction l with
    | nil => intro r; simp
    | cons a l ih => intro r; rw [List.foldl_cons, ih, insD_len]; simp; omega
  have h := this l []
  simpa [sortR] using h
theorem sortD_len (l : List Deed) : (sortD l).length = l.length := by unfold sortD; rw [List.length_reverse, sortR_len]
theorem sortSeg_len (l : List Deed) {a b : Int} (h0 : 0 ≤ a) (h1 : a ≤ b) (h2 : b ≤ l.length) : (sortSeg l a b).length = l.length := by
  unfold sortSeg
  simp only [List.length_append, List.length_take, List.length_drop, sortD_len]
  omega
theorem sortSeg_all (l : List Deed) : sortSeg l 0 l.length = sortD l := by
  unfold sortSeg
  simp
theorem sortSeg_none (l : List Deed) {a : Int} (h : 0 ≤ a) : sortSeg l a a = l := by
  unfold sortSeg
  rw [Int.sub_self]
  show l.take a.toNat ++ (sortD [] ++ _) = l
  show l.take a.toNat ++ ([] ++ l.drop a.toNat) = l
  rw [List.nil_append, List.take_append_drop]
/-- the row, with x among what it passed -/
def insRow (P : List Deed) (r : List Deed) (x : Deed) (M : List Deed) : List Deed := (P ++ r.reverse) ++ x :: M
theorem insRow_swap (P r M : List Deed) (x c : Deed) (z : Deed) :
    (insRow P (c :: r) x M).getD (P.length + (r.length + 1)) z = x ∧ (insRow P (c :: r) x M).getD (P.length + r.length) z = c ∧
    ((insRow P (c :: r) x M).set (P.length + (r.length + 1)) c).set (P.length + r.length) x = insRow P r x (c :: M) := by
  have e : insRow P (c :: r) x M = (P ++ r.reverse) ++ c :: x :: M := by simp [insRow]
  have hl : P.length + r.length = (P ++ r.reverse).length := by simp
  have hl2 : P.length + (r.length + 1) = (P ++ r.reverse).length + 1 := by simp; omega
  have e2 : insRow P r x (c :: M) = (P ++ r.reverse) ++ x :: c :: M := rfl
  rw [e, e2, hl, hl2]
  generalize P ++ r.reverse = L
  refine ⟨?_, ?_, ?_⟩
  · rw [getD_app_ge _ _ _ _ (by omega), show L.length + 1 - L.length = 1 by omega]; rfl
  · rw [getD_app_ge _ _ _ _ (by omega), Nat.sub_self]; rfl
  · rw [List.set_append_right _ _ (by omega), List.set_append_right _ _ (by omega), show L.length + 1 - L.length = 1 by omega, Nat.sub_self]
    rfl
theorem set_same {α : Type} {l : List α} {i : Nat} {z : α} (h : i < l.length) : l.set i (l.getD i z) = l := by
  rw [List.getD_eq_getElem?_getD, List.getElem?_eq_getElem h]
  exact List.set_getElem_self h
theorem deedOk_iff {d : Deed} : deedOk d = true ↔ d.2.2.1.length < 1000000 ∧ d.2.2.2.length < 1000000 ∧ ∀ s ∈ d.2.2.1, stepOk s = true := by
  unfold deedOk lenOk
  simp only [Bool.and_eq_true, decide_eq_true_eq, List.all_eq_true]
theorem stepOk_iff {s : StepT} : stepOk s = true ↔ s.1.2.2.2.2.2.2.1.length < 1000000 ∧ s.1.2.2.2.2.2.2.2.1.length < 1000000 ∧ s.2.2.2.1.length < 1000000 ∧ s.2.2.2.2.1.length < 1000000 ∧ s.2.2.2.2.2.2.2.2.2.2.2.2.2.2.length < 1000000 := by
  unfold stepOk lenOk
  simp only [Bool.and_eq_true, decide_eq_true_eq]
theorem mem_getD {α : Type} {l : List α} {i : Nat} {z : α} (h : i < l.length) : l.getD i z ∈ l := by
  rw [List.getD_eq_getElem?_getD, List.getElem?_eq_getElem h]; exact List.getElem_mem h
end Go.BB
set_option linter.unusedSimpArgs false
set_option linter.unusedVariables false
/-! plain lemmas: what was put in order rises -/
namespace Go.BB
open Go
theorem cmp3_lt (a b : Int) : cmp3 a b < 0 ↔ a < b := by unfold cmp3; split <;> (try split) <;> omega
theorem cmp3_ne (a b : Int) : cmp3 a b ≠ 0 ↔ a ≠ b := by unfold cmp3; split <;> (try split) <;> omega
theorem deedCmp_lt (a b : Deed) : deedCmp a b < 0 ↔ a.2.1 < b.2.1 ∨ a.2.1 = b.2.1 ∧ lateS a < lateS b := by
  unfold deedCmp
  by_cases h : cmp3 a.2.1 b.2.1 ≠ 0
  · rw [if_pos h, cmp3_lt]
    have := (cmp3_ne _ _).1 h
    omega
  · rw [if_neg h, cmp3_lt]
    have : a.2.1 = b.2.1 := by
      apply Classical.byContradiction
      intro hc
      exact h ((cmp3_ne _ _).2 hc)
    omega
theorem perm_insD (x : Deed) : ∀ (r : List Deed), (insD x r).Perm (x :: r)
  | [] => .refl _
  | a :: r => by
    unfold insD
    split
    · exact ((perm_insD x r).cons a).trans (.swap x a r)
    · exact .refl _
theorem perm_sortD (l : List Deed) : (sortD l).Perm l := by
  have : ∀ (l r : List Deed), (l.foldl (fun r x => insD x r) r).Perm (l ++ r) := by
    intro l
    induction l with
    | nil => intro r; exact .refl _
    | cons a l ih =>
      intro r
      rw [List.foldl_cons]
      exact (ih _).trans (((perm_insD a r).append_left l).trans (List.perm_middle))
  have h := this l []
  rw [List.append_nil] at h
  exact (List.reverse_perm _).trans h
/-! marks -/
end Go.BB
set_option linter.unusedSimpArgs false
set_option linter.unusedVariables false
/-! plain lemmas on requests and deeds by numbers -/
namespace Go.BB
open Go
theorem bitsS_len (v n : Int) : (bitsS v n).length = n.toNat := by simp [bitsS]
theorem wordsS_len (k n : Int) : (wordsS k n).length = n.toNat := by simp [wordsS]
theorem askS_len (k v : Int) : (aBits (askS k v)).length ≤ 24 ∧ (aWords (askS k v)).length ≤ 24 := by
  have d2 := digitS_range k 640 (n := 6) (by decide)
  unfold askS
  generalize (if digitS k 3840 12 = 0 then digitS k 46080 65536 else digitS k 16 40) = at1
  simp only
  repeat' split
  all_goals simp only [ask0, aBits, aWords, bitsS_len, wordsS_len, List.length_nil]
  all_goals omega
theorem askS_ok (k v : Int) : askLen (askS k v) = true := by
  have := askS_len k v
  exact and_t (lenOk_of (by omega)) (lenOk_of (by omega))
theorem valsR_len (m : List Cel) (s : Spn) : (valsR m s).length = (s.2.2 - s.2.1).toNat := by simp [valsR]
theorem doR_reg {m : List Cel} (hm : bufS m = true) (a : AskT) : bufS (doR m a).2 = true ∧ (doR m a).2.length ≤ m.length + max (max (aBits a).length (aWords a).length) 1 := by
  unfold doR
  split
  · exact ⟨hm, by show m.length ≤ _; omega⟩
  · have hc := cellsA_len a (getK m ((tabS (aFn a)).1, aAt a)).1
    obtain ⟨k1, k2⟩ := setR_ok (cellsA a (getK m ((tabS (aFn a)).1, aAt a)).1) m hm
    split
    · exact ⟨k1, by show (setR _ _).length ≤ _; omega⟩
    · exact ⟨k1, by show (setR _ _).length ≤ _; omega⟩
theorem echoA_len (a : AskT) : tellLen (echoA a) = true := by
  unfold echoA
  repeat' split
  all_goals rfl
theorem shownA_len (a : AskT) (l : List Int) (h : l.length < 1000000) : tellLen (shownA a l) = true := by
  unfold shownA
  split
  · exact and_t (lenOk_of (by simpa using h)) rfl
  · exact and_t rfl (and_t (lenOk_of h) rfl)
theorem doR_tell (m : List Cel) (a : AskT) : tellLen (doR m a).1.1 = true := by
  unfold doR
  split
  · rfl
  · rename_i hc
    have hk : askOk a = true := by
      cases h : askOk a with
      | true => rfl
      | false => exact absurd (.inl h) hc
    split
    · exact echoA_len a
    · rename_i s l hs
      refine shownA_len a _ ?_
      rw [valsR_len]
      rcases spansA_ok hk with e | ⟨s', t, e, z1, z2, z3, z4, z5⟩ | ⟨t, e⟩ | ⟨s', e, z1, z2, z3, z4, z5⟩
      · rw [e] at hs; cases hs
      · rw [e] at hs; cases hs; omega
      · rw [e] at hs; cases hs
      · rw [e] at hs; cases hs; omega
abbrev askD : AskT := (3, 1, 2, 0, 0, 0, [], [], 0, 0, 0, 0)
theorem stepD_ok (bs : List Int) (i k : Nat) {m : List Cel} (hm : bufS m = true) : stepOk (stepD bs i k m).1 = true ∧ bufS (stepD bs i k m).2 = true ∧ (stepD bs i k m).2.length ≤ m.length + 25 := by
  have hl := askS_len (digitS (atS bs ((i : Int) + (k : Int))) (1 + (k : Int)) 1099511627776) (atS bs ((i : Int) + (k : Int)))
  unfold stepD
  simp only
  generalize askS (digitS (atS bs ((i : Int) + (k : Int))) (1 + (k : Int)) 1099511627776) (atS bs ((i : Int) + (k : Int))) = a at hl ⊢
  obtain ⟨h1, h2⟩ := doR_reg hm a
  have ht := doR_tell m a
  have ok : ∀ (a : AskT) (t : TellT), (aBits a).length ≤ 24 → (aWords a).length ≤ 24 → tellLen t = true → stepOk (a, t) = true := by
    intro a t g1 g2 g3
    unfold tellLen at g3
    simp only [Bool.and_eq_true] at g3
    exact and_t (lenOk_of (by show (aBits a).length < _; omega)) (and_t (lenOk_of (by show (aWords a).length < _; omega)) (and_t g3.1 (and_t g3.2.1 g3.2.2)))
  split
  · exact ⟨ok _ _ hl.1 hl.2 ht, h1, by show (doR m a).2.length ≤ _; omega⟩
  · obtain ⟨h3, h4⟩ := doR_reg h1 askD
    refine ⟨ok _ _ (by decide) (by decide) (doR_tell _ _), h3, ?_⟩
    have : max (max (aBits askD).length (aWords askD).length) 1 = 1 := rfl
    rw [this] at h4
    show (doR (doR m a).2 askD).2.length ≤ _
    omega
theorem stepsD_ok (bs : List Int) (i : Nat) {m : List Cel} (hm : bufS m = true) : ∀ k, (stepsD bs i m k).1.length = k ∧ (∀ s ∈ (stepsD bs i m k).1, stepOk s = true) ∧ bufS (stepsD bs i m k).2 = true ∧ (stepsD bs i m k).2.length ≤ m.length + 25 * k
  | 0 => ⟨rfl, (fun s h => nomatch h), hm, by show m.length ≤ _; omega⟩
  | k + 1 => by
    obtain ⟨h1, h2, h3, h4⟩ := stepsD_ok bs i hm k
    obtain ⟨g1, g2, g3⟩ := stepD_ok bs i k h3
    unfold stepsD
    simp only
    refine ⟨by simp [h1], fun s hs => ?_, g2, by omega⟩
    rcases List.mem_append.1 hs with hs | hs
    · exact h2 s hs
    · rw [List.mem_singleton.1 hs]; exact g1
theorem fieldD_len (as1 bs : List Int) (i : Nat) : (fieldD as1 bs i).length ≤ 20 := by
  unfold fieldD
  split
  · exact cellsS_len _
  · simp
theorem deedD_ok (as1 bs : List Int) (right : Bool) (i : Nat) {m : List Cel} (hm : bufS m = true) : deedOk (deedD as1 bs right i m).1 = true ∧ bufS (deedD as1 bs right i m).2 = true ∧ (deedD as1 bs right i m).2.length ≤ m.length + 120 := by
  have hn := digitS_range (as1.getD i 0) 12 (n := 4) (by decide)
  unfold deedD
  simp only
  obtain ⟨h1, h2, h3, h4⟩ := stepsD_ok bs i hm (digitS (as1.getD i 0) 12 4).toNat
  have hf := fieldD_len as1 bs i
  obtain ⟨k1, k2⟩ := setR_ok (fieldD as1 bs i) _ h3
  exact ⟨deedOk_iff.2 ⟨by simp only; omega, by simp only; omega, h2⟩, k1, by omega⟩
theorem deedsD_ok (as1 bs : List Int) (right : Bool) : ∀ i, (deedsD as1 bs right i).1.length = i ∧ (∀ d ∈ (deedsD as1 bs right i).1, deedOk d = true) ∧ bufS (deedsD as1 bs right i).2 = true ∧ (deedsD as1 bs right i).2.length ≤ 120 * i
  | 0 => ⟨rfl, (fun s h => nomatch h), rfl, by show 0 ≤ _; omega⟩
  | i + 1 => by
    obtain ⟨h1, h2, h3, h4⟩ := deedsD_ok as1 bs right i
    obtain ⟨g1, g2, g3⟩ := deedD_ok as1 bs right i h3
    unfold deedsD
    simp only
    refine ⟨by simp [h1], fun s hs => ?_, g2, by omega⟩
    rcases List.mem_append.1 hs with hs | hs
    · exact h2 s hs
    · rw [List.mem_singleton.1 hs]; exact g1
theorem deedsS_ok (as1 bs : List Int) (right : Bool) : (deedsS as1 bs right).length = min as1.length 20 ∧ ∀ d ∈ deedsS as1 bs right, deedOk d = true := by
  obtain ⟨h1, h2, _⟩ := deedsD_ok as1 bs right (min as1.length 20)
  exact ⟨h1, h2⟩
end Go.BB
