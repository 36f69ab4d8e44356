/- A symbolic machine for the model's code, and what it shows of this seat's functions. No conditions. -/
import Derived.Test.YtnofmeckcimodaaFN
import Derived.Test.YtnofmeckcimodaaFGfgb
import Derived.Test.YtnofmeckcimodaaFLFile
import Derived.Test.YtnofmeckcimodaaFVfdo2
import Derived.Test.YtnofmeckcimodaaFGfdg
import Derived.Test.YtnofmeckcimodaaFGfea
import Derived.Test.YtnofmeckcimodaaFGfec
set_option linter.unusedSimpArgs false
set_option linter.unusedVariables false
namespace Go.BB
open Go Go.Proofs
set_option maxRecDepth 100000
set_option exponentiation.threshold 100000
noncomputable section
end
end Go.BB
namespace Go.BB
open Go
structure RefOk (x : Ref) : Prop where
 u : 0 ≤ x.1 ∧ x.1 ≤ 18446744073709551615
 most : x.2.1 ≤ 1048576
 len : (chsLen x.2.2.1 : Int) ≤ x.2.1
 few : chsLen x.2.2.1 ≤ 500000
 srt : srtR x.2.2.1 = true
 rowsN : x.2.2.1.length ≤ 262144
 rows : ∀ p ∈ x.2.2.1, p.2 ≠ [] ∧ rightFrom 0 p.2 = true ∧ newS p.2 ≤ x.1
end Go.BB
set_option linter.unusedSimpArgs false
set_option linter.unusedVariables false
namespace Go.BB
open Go Go.Proofs
set_option maxRecDepth 100000
end Go.BB
set_option linter.unusedSimpArgs false
set_option linter.unusedVariables false
namespace Go.BB
open Go Go.Proofs
set_option maxRecDepth 100000
theorem askOk_at {a : AskT} (h : askOk a = true) : knownS a.1 = true ∧ 0 ≤ a.2.1 ∧ a.2.1 ≤ 65535 ∧ 0 ≤ aRAt a ∧ aRAt a ≤ 65535 ∧ sizeA a = true := by
 unfold askOk placeN at h
 simp only [Bool.and_eq_true, decide_eq_true_eq] at h
 obtain ⟨h1, _, ⟨h2, h3⟩, ⟨h4, h5⟩, h6⟩ := h
 exact ⟨h1, h2, h3, h4, h5, h6⟩
theorem v_r21Cells : Valid Try.prog n_r21Cells c_r21Cells := by
 refine valid_fn mixed hf_r21Cells (by kernel_rfl) rfl (ts := tmpsOf f_r21Cells.results.toList) (by kernel_rfl) (cfg := cfgW g_r21Cells) tt_ok (Γok_cons v_r5Right (Γok_cons v_r1Table (Γok_cons v_rlay Γok_nil))) r21Cells_tm c_r21Cells (by kernel_rfl) (fun _ _ _ _ => ⟨⟩) ?_
 rintro ⟨(a : AskT), (was : Int), ⟨⟩⟩ r u h
 obtain ⟨h1, h2⟩ := grd_some h
 unfold askLen at h1
 simp only [Bool.and_eq_true] at h1
 obtain ⟨g1, g2⟩ := h1
 have k1 := lenOk_lt g1
 have k2 := lenOk_lt g2
 refine ⟨(aBits a).length + 1, (r21Cells_rn _ _ _).trans (Eq.trans ?_ (congrArg some h2))⟩
 show r21Cells_P ((aBits a).length + 1) a was = some ((cellsA a was, ()), ((), (), ()))
 unfold r21Cells_P cellsA
 simp only [askEta]
 cases hk : askOk a with
 | false => rfl
 | true =>
  obtain ⟨q1, q2, q3, q4, q5, q6⟩ := askOk_at hk
  obtain ⟨f, at1, n, v, an, o, bs, ws, ra, rn, c, ob⟩ := a
  dsimp only [aBits, aWords] at g1 g2 k1 k2 q1 q2 q3 ⊢
  have hat : ∀ l : List Int, lenOk l = true → (lenOk l && (decide ((-9223372036854775808 : Int) ≤ at1) && decide (at1 ≤ (9223372036853775807 : Int)))) = true := fun l hl => and_t hl (and_t (decide_eq_true (by omega)) (decide_eq_true (by omega)))
  rcases (known_iff f).1 q1 with rfl | rfl | rfl | rfl | rfl | rfl | rfl | rfl | rfl | rfl | rfl
  ·rfl
  ·rfl
  ·rfl
  ·rfl
  ·show bd (grd _ _) _ = _
   rw [bd_grd (hat _ rfl)]; rfl
  ·show bd (grd _ _) _ = _
   rw [bd_grd (hat _ rfl)]; rfl
  ·show loopN r21Cells_L1 _ _ = _
   refine loopN_for (step := r21Cells_L1) bs.length (fun i => ((15, at1, n, v, an, o, bs, ws, ra, rn, c, ob, ()), ((tabS 15).1, at1, ()), (bs.take i).map bitN, (i : Int), ())) (fun i hi rec => ?_) (fun rec => ?_) (bs.length + 1) (by omega)
   ·simp only [r21Cells_L1, Int.toNat_natCast]
    have e : ((bs.take i).map bitN).length = i := by rw [List.length_map, List.length_take]; omega
    rw [br_dt (by omega), br_dt (by omega), br_dt (by omega), wrapI (by omega) (by omega), take_snoc bs i false hi, List.map_append]
    cases bs.getD i false with
    | true =>
     rw [br_t rfl, br_dt (by rw [e]; simp only [List.length_singleton, LIM]; omega), br_dt (by rw [e]; simp only [List.length_singleton, LIM]; omega)]
     rfl
    | false =>
     rw [br_f rfl, br_dt (by rw [e]; simp only [List.length_singleton, LIM]; omega), br_dt (by rw [e]; simp only [List.length_singleton, LIM]; omega)]
     rfl
   ·simp only [r21Cells_L1]
    rw [br_df (by omega), List.take_length, bd_grd (hat _ (lenOk_of (by rw [List.length_map]; omega)))]
    rfl
  ·show bd (grd _ _) _ = _
   rw [bd_grd (hat _ g2)]; rfl
  ·show bd (grd _ _) _ = _
   rw [bd_grd (hat _ rfl)]; rfl
  ·show bd (grd _ _) _ = _
   rw [bd_grd (hat _ g2)]; rfl
  ·rfl
end Go.BB
set_option linter.unusedSimpArgs false
set_option linter.unusedVariables false
namespace Go.BB
open Go Go.Proofs
set_option maxRecDepth 100000
abbrev DoRes := Option ((TellT × Bool × Unit) × (List Cel × Unit) × Unit × Unit)
theorem brNTb {α : Type} {x y : α} : br (!true) x y = y := rfl
def doNo (m : List Cel) : DoRes := some ((((0 : Int), (0 : Int), [], [], (0 : Int), (0 : Int), (0 : Int), (0 : Int), (0 : Int), (0 : Int), (0 : Int), false, (0 : Int), []), false, ()), (m, ()), (), ())
def rfT (K : Nat) (m : List Cel) (a : AskT) : DoRes :=
 bd (grd (lenOk m && bufS m) (((getK m ((tabS a.1).1, a.2.1)).1, ()), (m, ()), (), ()))
 fun (x1 : (Int × Unit) × (List ((Int × Int) × Int) × Unit) × Unit × Unit) =>
 bd (grd (askLen a) ((cellsA a x1.1.1, ()), (), (), ()))
 fun (x2 : (List ((Int × Int) × Int) × Unit) × Unit × Unit × Unit) =>
 bd (grd (decide (x1.2.1.1.length ≤ (500000 : Nat)) && (bufS x1.2.1.1 && decide (x2.1.1.length ≤ (100000 : Nat)))) ((), (setR x1.2.1.1 x2.1.1, ()), (), ()))
 fun (x3 : Unit × (List ((Int × Int) × Int) × Unit) × Unit × Unit) =>
 br ((↑(spansA a).1.length : Int) == (0 : Int)) (some ((echoA a, true, ()), (x3.2.1.1, ()), (), ()))
 (br (decide ((0 : Int) < (↑(spansA a).1.length : Int)))
  (loopN rfdo_L1 K ((x3.2.1.1, ()), (a.1, a.2.1, a.2.2.1, a.2.2.2.1, a.2.2.2.2.1, a.2.2.2.2.2.1, a.2.2.2.2.2.2.1, a.2.2.2.2.2.2.2.1, a.2.2.2.2.2.2.2.2.1, a.2.2.2.2.2.2.2.2.2.1, a.2.2.2.2.2.2.2.2.2.2.1, a.2.2.2.2.2.2.2.2.2.2.2, ()),
   ((0 : Int), (0 : Int), (), (), (0 : Int), (0 : Int), (0 : Int), (0 : Int), (0 : Int), (0 : Int), (0 : Int), false, (0 : Int), (), ()), (spansA a).1, (tabS a.1).1, [], ((spansA a).1.getD (Int.toNat 0) ((0 : Int), (0 : Int), (0 : Int))).2.1, ())) none)
def rfW (K : Nat) (m : List Cel) (a : AskT) : DoRes :=
 br (decide ((↑(spansA a).2.length : Int) > (0 : Int))) (br (decide ((0 : Int) < (↑(spansA a).2.length : Int))) (br (!spanR ((spansA a).2.getD (Int.toNat 0) ((0 : Int), (0 : Int), (0 : Int)))) (doNo m) (rfT K m a)) none) (rfT K m a)
theorem rfdo_eq (K : Nat) (m : List Cel) (a : AskT) : rfdo_P K (m, ()) a = br (!askOk a) (doNo m) (br (a.1 == (43 : Int)) (doNo m)
  (br (decide ((↑(spansA a).1.length : Int) > (0 : Int))) (br (decide ((0 : Int) < (↑(spansA a).1.length : Int))) (br (!spanR ((spansA a).1.getD (Int.toNat 0) ((0 : Int), (0 : Int), (0 : Int)))) (doNo m) (rfW K m a)) none) (rfW K m a))) := by kernel_rfl
theorem spansA_ok {a : AskT} (h : askOk a = true) : (spansA a = ([], []) ∨ (∃ s t, spansA a = ([s], [t]) ∧ s.1 = (tabS a.1).1 ∧ 0 ≤ s.2.1 ∧ s.2.1 ≤ 65535 ∧ s.2.1 ≤ s.2.2 ∧ s.2.2 ≤ s.2.1 + 2000) ∨ (∃ t, spansA a = ([], [t])) ∨ (∃ s, spansA a = ([s], []) ∧ s.1 = (tabS a.1).1 ∧ 0 ≤ s.2.1 ∧ s.2.1 ≤ 65535 ∧ s.2.1 ≤ s.2.2 ∧ s.2.2 ≤ s.2.1 + 2000)) := by
 have h0 := askOk_at h
 obtain ⟨q1, q2, q3, q4, q5, q6⟩ := h0
 have e : spansA a = if aFn a = 1 ∨ aFn a = 2 ∨ aFn a = 3 ∨ aFn a = 4 then ([((tabS (aFn a)).1, aAt a, aAt a + aN a)], [])
  else if aFn a = 5 ∨ aFn a = 6 ∨ aFn a = 22 then ([], [((tabS (aFn a)).1, aAt a, aAt a + 1)])
  else if aFn a = 15 ∨ aFn a = 16 then ([], [((tabS (aFn a)).1, aAt a, aAt a + aN a)])
  else if aFn a = 23 then ([((tabS (aFn a)).1, aRAt a, aRAt a + aRN a)], [((tabS (aFn a)).1, aAt a, aAt a + aN a)])
  else ([], []) := by
  unfold spansA
  rw [if_neg (by rw [h]; decide)]
 rw [e]
 obtain ⟨f, at1, n, v, an, o, bs, ws, ra, rn, c, ob⟩ := a
 unfold sizeA inN at q6
 dsimp only [aFn, aAt, aN, aRAt, aRN] at q1 q2 q3 q4 q5 q6 ⊢
 rcases (known_iff f).1 q1 with rfl | rfl | rfl | rfl | rfl | rfl | rfl | rfl | rfl | rfl | rfl
 all_goals simp at q6
 all_goals first
  | exact .inl rfl
  | exact .inr (.inr (.inl ⟨_, rfl⟩))
  | exact .inr (.inr (.inr ⟨_, rfl, rfl, q2, q3, by show at1 ≤ at1 + n; omega, by show at1 + n ≤ at1 + 2000; omega⟩))
  | exact .inr (.inl ⟨_, _, rfl, rfl, q4, q5, by show ra ≤ ra + rn; omega, by show ra + rn ≤ ra + 2000; omega⟩)
theorem rfdo_loop (K : Nat) (hK : 2000 < K) {m : List Cel} (hm : bufS m = true) (hl : m.length < 1000000) (a : AskT) (s : Spn) (h1 : s.1 = (tabS a.1).1) (h2 : 0 ≤ s.2.1) (h3 : s.2.1 ≤ 65535) (h4 : s.2.1 ≤ s.2.2) (h5 : s.2.2 ≤ s.2.1 + 2000) :
  loopN rfdo_L1 K ((m, ()), (a.1, a.2.1, a.2.2.1, a.2.2.2.1, a.2.2.2.2.1, a.2.2.2.2.2.1, a.2.2.2.2.2.2.1, a.2.2.2.2.2.2.2.1, a.2.2.2.2.2.2.2.2.1, a.2.2.2.2.2.2.2.2.2.1, a.2.2.2.2.2.2.2.2.2.2.1, a.2.2.2.2.2.2.2.2.2.2.2, ()),
   ((0 : Int), (0 : Int), (), (), (0 : Int), (0 : Int), (0 : Int), (0 : Int), (0 : Int), (0 : Int), (0 : Int), false, (0 : Int), (), ()), [s], (tabS a.1).1, [], s.2.1, ()) = (some ((shownA a (valsR m s), true, ()), (m, ()), (), ()) : DoRes) := by
 have := loopN_for (step := rfdo_L1) (s.2.2 - s.2.1).toNat (fun i => ((m, ()), (a.1, a.2.1, a.2.2.1, a.2.2.2.1, a.2.2.2.2.1, a.2.2.2.2.2.1, a.2.2.2.2.2.2.1, a.2.2.2.2.2.2.2.1, a.2.2.2.2.2.2.2.2.1, a.2.2.2.2.2.2.2.2.2.1, a.2.2.2.2.2.2.2.2.2.2.1, a.2.2.2.2.2.2.2.2.2.2.2, ()),
   ((0 : Int), (0 : Int), (), (), (0 : Int), (0 : Int), (0 : Int), (0 : Int), (0 : Int), (0 : Int), (0 : Int), false, (0 : Int), (), ()), [s], (tabS a.1).1, (List.range i).map (fun (j : Nat) => (getK m (s.1, s.2.1 + (j : Int))).1), s.2.1 + (i : Int), ())) (res := (some ((shownA a (valsR m s), true, ()), (m, ()), (), ()) : DoRes)) (fun i hi rec => ?_) (fun rec => ?_) K (by omega)
 ·have e : s.2.1 + ((0 : Nat) : Int) = s.2.1 := by omega
  simpa [e] using this
 ·have hs : ([s] : List Spn).getD (Int.toNat 0) (0, 0, 0) = s := rfl
  have hone : (0 : Int) < ((([s] : List Spn).length : Nat) : Int) := by simp
  have e : ((List.range i).map (fun (j : Nat) => (getK m (s.1, s.2.1 + (j : Int))).1)).length = i := by simp
  simp only [rfdo_L1, hs]
  rw [br_dt hone, br_dt (by omega), bd_grd (and_t (lenOk_of hl) hm)]
  simp only
  rw [br_dt (by rw [e]; simp only [List.length_singleton, LIM]; omega), br_dt (by rw [e]; simp only [List.length_singleton, LIM]; omega), wrapI (by omega) (by omega)]
  have e2 : (List.range (i + 1)).map (fun (j : Nat) => (getK m (s.1, s.2.1 + (j : Int))).1) = cat ((List.range i).map (fun (j : Nat) => (getK m (s.1, s.2.1 + (j : Int))).1)) [(getK m ((tabS a.1).1, s.2.1 + (i : Int))).1] := by
   rw [List.range_succ, List.map_append, h1]; rfl
  rw [e2, show s.2.1 + ((i + 1 : Nat) : Int) = s.2.1 + (i : Int) + 1 by push_cast; omega]
 ·have hs : ([s] : List Spn).getD (Int.toNat 0) (0, 0, 0) = s := rfl
  have hone : (0 : Int) < ((([s] : List Spn).length : Nat) : Int) := by simp
  simp only [rfdo_L1, hs]
  rw [br_dt hone, br_df (by omega), bd_grd (lenOk_of (by simp; omega))]
  rfl
theorem cellsA_len (a : AskT) (was : Int) : (cellsA a was).length ≤ max (max (aBits a).length (aWords a).length) 1 := by
 unfold cellsA
 split
 ·simp
 ·split
  ·rw [layFrom_len, List.length_singleton]; omega
  ·split
   ·rw [layFrom_len, List.length_map]; omega
   ·split
    ·rw [layFrom_len]; omega
    ·split
     ·rw [layFrom_len, List.length_singleton]; omega
     ·simp
theorem v_rfdo : Valid Try.prog n_rfdo c_rfdo := by
 refine valid_fnc mixed hf_rfdo (by kernel_rfl) rfl (cfg := cfgW g_rfdo) tt_ok (Γok_cons v_r5Spans (Γok_cons v_r5Right (Γok_cons v_rspanRight (Γok_cons v_r1Table (Γok_cons v_rfget (Γok_cons v_r21Cells (Γok_cons v_rfset (Γok_cons v_r5Echo (Γok_cons v_shown Γok_nil))))))))) rfdo_tm c_rfdo (by kernel_rfl) (fun _ _ _ _ => ⟨⟩) ?_
 rintro ⟨(⟨m, ⟨⟩⟩ : List Cel × Unit), (a : AskT), ⟨⟩⟩ r u h
 obtain ⟨h1, h2⟩ := grd_some h
 simp only [Bool.and_eq_true, decide_eq_true_eq] at h1
 obtain ⟨g1, g2, g3, g4, g5⟩ := h1
 refine ⟨3000, (rfdo_rn _ _ _).trans (Eq.trans ?_ (congrArg some h2))⟩
 show rfdo_P 3000 (m, ()) a = (some (((doR m a).1.1, (doR m a).1.2, ()), ((doR m a).2, ()), (), ()) : DoRes)
 rw [rfdo_eq]
 have hno : ∀ c : Prop, (askOk a = false ∨ aFn a = 43 ∨ (spansA a).1.any (fun s => !spanR s) ∨ (spansA a).2.any (fun s => !spanR s)) → doNo m = (some (((doR m a).1.1, (doR m a).1.2, ()), ((doR m a).2, ()), (), ()) : DoRes) := by
  intro _ hc
  unfold doR
  rw [if_pos hc]
  rfl
 cases hk : askOk a with
 | false => exact hno True (.inl hk)
 | true =>
  rw [brNTb]
  by_cases hf : a.1 = 43
  ·rw [br_t (by rw [hf]; rfl)]
   exact hno True (.inr (.inl hf))
  rw [br_f (by simpa using hf)]
  have hc := cellsA_len a (getK m ((tabS a.1).1, a.2.1)).1
  obtain ⟨k1, k2⟩ := setR_ok (cellsA a (getK m ((tabS a.1).1, a.2.1)).1) m g2
  have hT : (∀ s, (spansA a).1 = [s] → s.1 = (tabS a.1).1 ∧ 0 ≤ s.2.1 ∧ s.2.1 ≤ 65535 ∧ s.2.1 ≤ s.2.2 ∧ s.2.2 ≤ s.2.1 + 2000) → ((spansA a).1 = [] ∨ ∃ s, (spansA a).1 = [s]) → (spansA a).1.any (fun s => !spanR s) = false → (spansA a).2.any (fun s => !spanR s) = false →
    rfT 3000 m a = (some (((doR m a).1.1, (doR m a).1.2, ()), ((doR m a).2, ()), (), ()) : DoRes) := by
   intro hs hor ha1 ha2
   unfold rfT doR
   rw [bd_grd (and_t (lenOk_of (by omega)) g2)]
   simp only
   rw [bd_grd g3]
   simp only
   rw [bd_grd (and_t (decide_eq_true (by omega)) (and_t g2 (decide_eq_true (by omega)))), if_neg (by rw [hk, ha1, ha2]; simp; exact hf)]
   rcases hor with hn | ⟨s, hn⟩
   ·rw [hn]
    rfl
   ·obtain ⟨z1, z2, z3, z4, z5⟩ := hs s hn
    rw [hn, br_f (by rfl), br_t (by rfl)]
    exact rfdo_loop 3000 (by omega) k1 (by omega) a s z1 z2 z3 z4 z5
  have hW : (∀ s, (spansA a).1 = [s] → s.1 = (tabS a.1).1 ∧ 0 ≤ s.2.1 ∧ s.2.1 ≤ 65535 ∧ s.2.1 ≤ s.2.2 ∧ s.2.2 ≤ s.2.1 + 2000) → ((spansA a).1 = [] ∨ ∃ s, (spansA a).1 = [s]) → (spansA a).1.any (fun s => !spanR s) = false → ((spansA a).2 = [] ∨ ∃ t, (spansA a).2 = [t]) →
    rfW 3000 m a = (some (((doR m a).1.1, (doR m a).1.2, ()), ((doR m a).2, ()), (), ()) : DoRes) := by
   intro hs hor ha1 hw
   unfold rfW
   rcases hw with hw | ⟨t, hw⟩
   ·rw [hw]
    rw [br_f (by decide)]
    exact hT hs hor ha1 (by rw [hw]; rfl)
   ·rw [hw, br_t (by rfl), br_t (by rfl)]
    show br (!spanR t) _ _ = _
    cases ht : spanR t with
    | false => exact hno True (.inr (.inr (.inr (by rw [hw]; simp [ht]))))
    | true => exact hT hs hor ha1 (by rw [hw]; simp [ht])
  have hR : (∀ s, (spansA a).1 = [s] → s.1 = (tabS a.1).1 ∧ 0 ≤ s.2.1 ∧ s.2.1 ≤ 65535 ∧ s.2.1 ≤ s.2.2 ∧ s.2.2 ≤ s.2.1 + 2000) → ((spansA a).1 = [] ∨ ∃ s, (spansA a).1 = [s]) → ((spansA a).2 = [] ∨ ∃ t, (spansA a).2 = [t]) →
    br (decide ((↑(spansA a).1.length : Int) > (0 : Int))) (br (decide ((0 : Int) < (↑(spansA a).1.length : Int))) (br (!spanR ((spansA a).1.getD (Int.toNat 0) ((0 : Int), (0 : Int), (0 : Int)))) (doNo m) (rfW 3000 m a)) none) (rfW 3000 m a) = (some (((doR m a).1.1, (doR m a).1.2, ()), ((doR m a).2, ()), (), ()) : DoRes) := by
   intro hs hor hw
   have hor2 := hor
   rcases hor2 with hn | ⟨s, hn⟩
   ·rw [hn, br_f (by decide)]
    exact hW hs hor (by rw [hn]; rfl) hw
   ·rw [hn, br_t (by rfl), br_t (by rfl)]
    show br (!spanR s) _ _ = _
    cases ht : spanR s with
    | false => exact hno True (.inr (.inr (.inl (by rw [hn]; simp [ht]))))
    | true => exact hW hs hor (by rw [hn]; simp [ht]) hw
  rcases spansA_ok hk with e | ⟨s, t, e, z⟩ | ⟨t, e⟩ | ⟨s, e, z⟩
  ·exact hR (fun s hs => by rw [e] at hs; cases hs) (.inl (by rw [e])) (.inl (by rw [e]))
  ·exact hR (fun s' hs => by rw [e] at hs; cases hs; exact z) (.inr ⟨s, by rw [e]⟩) (.inr ⟨t, by rw [e]⟩)
  ·exact hR (fun s hs => by rw [e] at hs; cases hs) (.inl (by rw [e])) (.inr ⟨t, by rw [e]⟩)
  ·exact hR (fun s' hs => by rw [e] at hs; cases hs; exact z) (.inr ⟨s, by rw [e]⟩) (.inl (by rw [e]))
end Go.BB
set_option linter.unusedSimpArgs false
set_option linter.unusedVariables false
namespace Go.BB
open Go Go.Proofs
set_option maxRecDepth 100000
theorem v_table : Valid Try.prog n_table c_table := by
 refine valid_fn mixed hf_table (by kernel_rfl) rfl (ts := tmpsOf f_table.results.toList) (by kernel_rfl) (cfg := cfgW g_table) tt_ok Γok_nil table_tm c_table (by kernel_rfl) (fun _ _ _ _ => ⟨⟩) ?_
 rintro ⟨(fn : Int), ⟨⟩⟩ r u h
 exact ⟨0, (table_rn _ _).trans ((show table_P 0 fn = sw fn (fun v => ((v.1, v.2, ()), ((), ()))) tabL (0, false) from rfl).trans ((sw_eq _ _ _ _).trans h))⟩
theorem v_does : Valid Try.prog n_does c_does := by
 refine valid_fn mixed hf_does (by kernel_rfl) rfl (ts := tmpsOf f_does.results.toList) (by kernel_rfl) (cfg := cfgW g_does) tt_ok Γok_nil does_tm c_does (by kernel_rfl) (fun _ _ _ _ => ⟨⟩) ?_
 rintro ⟨(fn : Int), ⟨⟩⟩ r u h
 exact ⟨0, (does_rn _ _).trans ((show does_P 0 fn = sw fn (fun v => ((v.1, v.2, ()), ((), ()))) doesL (false, false) from rfl).trans ((sw_eq _ _ _ _).trans h))⟩
theorem v_most : Valid Try.prog n_most c_most := by
 refine valid_fn mixed hf_most (by kernel_rfl) rfl (ts := tmpsOf f_most.results.toList) (by kernel_rfl) (cfg := cfgW g_most) tt_ok Γok_nil most_tm c_most (by kernel_rfl) (fun _ _ _ _ => ⟨⟩) ?_
 rintro ⟨(fn : Int), ⟨⟩⟩ r u h
 exact ⟨0, (most_rn _ _).trans ((show most_P 0 fn = sw fn (fun v => ((v.1, v.2, ()), ((), ()))) mostL (0, 0) from rfl).trans ((sw_eq _ _ _ _).trans h))⟩
theorem br_or {β : Type} (a b : Bool) (f : Bool → β) : br a (some (f true)) (some (f b)) = some (f (a || b)) := by cases a <;> rfl
theorem v_writes : Valid Try.prog n_writes c_writes := by
 refine valid_fn mixed hf_writes (by kernel_rfl) rfl (ts := tmpsOf f_writes.results.toList) (by kernel_rfl) (cfg := cfgW g_writes) tt_ok (Γok_cons v_does Γok_nil) writes_tm c_writes (by kernel_rfl) (fun _ _ _ _ => ⟨⟩) ?_
 rintro ⟨(fn : Int), ⟨⟩⟩ r u h
 exact ⟨0, (writes_rn _ _).trans h⟩
theorem v_known : Valid Try.prog n_known c_known := by
 refine valid_fn mixed hf_known (by kernel_rfl) rfl (ts := tmpsOf f_known.results.toList) (by kernel_rfl) (cfg := cfgW g_known) tt_ok (Γok_cons v_table Γok_nil) known_tm c_known (by kernel_rfl) (fun _ _ _ _ => ⟨⟩) ?_
 rintro ⟨(fn : Int), ⟨⟩⟩ r u h
 exact ⟨0, (known_rn _ _).trans ((br_or (tabS fn).2 (fn == 43) fun b => ((b, ()), ((), ()))).trans h)⟩
theorem v_askNums : Valid Try.prog n_askNums c_askNums := by
 refine valid_fnc mixed hf_askNums (by kernel_rfl) rfl (cfg := cfgW g_askNums) tt_ok Γok_nil askNums_tm c_askNums (by kernel_rfl) (fun _ _ _ _ => ⟨⟩) ?_
 rintro ⟨(a : AskT), ⟨⟩⟩ r u h
 exact ⟨0, (askNums_rn _ a).trans (Eq.trans (by rfl) h)⟩
theorem brfzA {α : Type} {x y : α} : br false x y = y := rfl
theorem brtzA {α : Type} {x y : α} : br true x y = x := rfl
theorem br_eqI {α : Type} {n c : Int} {x y : α} : br (n == c) x y = if n = c then x else y := by
 by_cases h : n = c
 ·rw [if_pos h, br_t (by rw [h]; exact beq_self_eq_true c)]
 ·rw [if_neg h, br_f (beq_eq_false_iff_ne.2 h)]
theorem v_askOnly : Valid Try.prog n_askOnly c_askOnly := by
 refine valid_fnc mixed hf_askOnly (by kernel_rfl) rfl (cfg := cfgW g_askOnly) tt_ok Γok_nil askOnly_tm c_askOnly (by kernel_rfl) (fun _ _ _ _ => ⟨⟩) ?_
 rintro ⟨(a : AskT), ⟨⟩⟩ r u h
 refine ⟨0, (askOnly_rn _ a).trans (Eq.trans ?_ h)⟩
 show askOnly_P 0 a = some ((onlyA a, ()), ((), ()))
 obtain ⟨f, at1, n, v, an, o, bs, ws, ra, rn, c, ob⟩ := a
 by_cases hk : knownS f = true
 ·rcases (known_iff f).1 hk with rfl | rfl | rfl | rfl | rfl | rfl | rfl | rfl | rfl | rfl | rfl <;> rfl
 ·have hn := mt (known_iff f).2 hk
  simp only [not_or] at hn
  obtain ⟨h1, h2, h3, h4, h5, h6, h7, h8, h9, h10, h11⟩ := hn
  unfold askOnly_P onlyA
  simp only [br_eqI, aFn]
  simp [h1, h2, h3, h4, h5, h6, h7, h8, h9, h10, h11]
theorem v_askAddr : Valid Try.prog n_askAddr c_askAddr := by
 refine valid_fn mixed hf_askAddr (by kernel_rfl) rfl (ts := tmpsOf f_askAddr.results.toList) (by kernel_rfl) (cfg := cfgW g_askAddr) tt_ok Γok_nil askAddr_tm c_askAddr (by kernel_rfl) (fun _ _ _ _ => ⟨⟩) ?_
 rintro ⟨(n : Int), ⟨⟩⟩ r u h
 refine ⟨0, (askAddr_rn _ n).trans (Eq.trans ?_ h)⟩
 show askAddr_P 0 n = some ((placeN n, ()), ((), ()))
 unfold askAddr_P placeN
 rw [brAnd]
 have e : decide (n < 65536) = decide (n ≤ 65535) := by
  by_cases h : n < 65536
  ·rw [decide_eq_true h, decide_eq_true (by omega)]
  ·rw [decide_eq_false h, decide_eq_false (by omega)]
 rw [e]
theorem v_askCounts : Valid Try.prog n_askCounts c_askCounts := by
 refine valid_fn mixed hf_askCounts (by kernel_rfl) rfl (ts := tmpsOf f_askCounts.results.toList) (by kernel_rfl) (cfg := cfgW g_askCounts) tt_ok Γok_nil askCounts_tm c_askCounts (by kernel_rfl) (fun _ _ _ _ => ⟨⟩) ?_
 rintro ⟨(n : Int), (m : Int), ⟨⟩⟩ r u h
 refine ⟨0, (askCounts_rn _ n m).trans (Eq.trans ?_ h)⟩
 show askCounts_P 0 n m = some ((countsN n m, ()), ((), (), ()))
 unfold askCounts_P countsN
 rw [brAnd]
def sameN (x y : Nums) : Bool := (x.1 == y.1 && (x.2.1 == y.2.1 && (x.2.2.1 == y.2.2.1 && (x.2.2.2.1 == y.2.2.2.1 && (x.2.2.2.2.1 == y.2.2.2.2.1 && (x.2.2.2.2.2.1 == y.2.2.2.2.2.1 && (x.2.2.2.2.2.2.1 == y.2.2.2.2.2.2.1 && (x.2.2.2.2.2.2.2.1 == y.2.2.2.2.2.2.2.1 &&
 (x.2.2.2.2.2.2.2.2.1 == y.2.2.2.2.2.2.2.2.1 && (x.2.2.2.2.2.2.2.2.2.1 == y.2.2.2.2.2.2.2.2.2.1 && (x.2.2.2.2.2.2.2.2.2.2.1 == y.2.2.2.2.2.2.2.2.2.2.1 && true)))))))))))
theorem isW_iff (n : Int) : isW n = true ↔ 0 ≤ n ∧ n ≤ 65535 := by simp [isW]
theorem sameN_plain {a : AskT} (hk : knownS (aFn a) = true) (hw : askW a = true) : sameN (numsA a) (numsA (onlyA a)) = plainA a := by
 obtain ⟨f, at1, n, v, an, o, bs, ws, ra, rn, c, ob⟩ := a
 unfold askW at hw
 simp only [Bool.and_eq_true, isW_iff, aVal, aAnd, aOr] at hw
 obtain ⟨w1, w2, w3⟩ := hw
 have e1 : IntKind.i64.wrap v = v := wrapI (by omega) (by omega)
 have e2 : IntKind.i64.wrap an = an := wrapI (by omega) (by omega)
 have e3 : IntKind.i64.wrap o = o := wrapI (by omega) (by omega)
 have e0 : IntKind.i64.wrap 0 = 0 := rfl
 have el : ∀ l : Nat, ((l : Int) == (0 : Int)) = decide (l = 0) := fun l => by
  by_cases h : l = 0
  ·subst h; rfl
  ·rw [decide_eq_false h]; exact beq_eq_false_iff_ne.2 (by omega)
 rw [Bool.eq_iff_iff]
 rcases (known_iff f).1 hk with rfl | rfl | rfl | rfl | rfl | rfl | rfl | rfl | rfl | rfl | rfl <;>
  (simp [sameN, numsA, onlyA, plainA, inN, manyF, oneF, aFn, aAt, aN, aVal, aAnd, aOr, aBits, aWords, aRAt, aRN, aCode, aObj, e1, e2, e3, e0, el, -List.length_eq_zero_iff] <;> (try constructor) <;> (try intro h) <;> (try omega) <;> (try simp_all))
theorem v_askRight : Valid Try.prog n_askRight c_askRight := by
 refine valid_fnc mixed hf_askRight (by kernel_rfl) rfl (cfg := cfgW g_askRight) tt_ok (Γok_cons v_known (Γok_cons v_askNums (Γok_cons v_askOnly (Γok_cons v_askAddr (Γok_cons v_most (Γok_cons v_askCounts Γok_nil)))))) askRight_tm c_askRight (by kernel_rfl) (fun _ _ _ _ => ⟨⟩) ?_
 rintro ⟨(a : AskT), ⟨⟩⟩ r u h
 obtain ⟨h1, h2⟩ := grd_some h
 have hw : askW a = true := h1
 refine ⟨0, (askRight_rn _ a).trans (Eq.trans ?_ (congrArg some h2))⟩
 show askRight_P 0 a = some ((askOk a, ()), ((), ()))
 unfold askOk
 cases hk : knownS a.1 with
 | false =>
  unfold askRight_P
  rw [hk]
  rfl
 | true =>
  have hs := sameN_plain hk hw
  have e : ∀ q : Bool, (true && q) = q := fun _ => rfl
  rw [e]
  show askRight_P 0 a = _
  have hp : askRight_P 0 a = br (!true) (some ((false, ()), ((), ()))) (br (!(sameN (numsA a) (numsA (onlyA a)))) (some ((false, ()), ((), ()))) (br (!placeN a.2.1) (some ((false, ()), ((), ()))) (br (!placeN a.2.2.2.2.2.2.2.2.1) (some ((false, ()), ((), ()))) (some ((sizeA a, ()), ((), ())))))) := by
   have e2 : ∀ {x y x' y' : Option ((Bool × Unit) × Unit × Unit)} {b b' : Bool}, b = b' → x = x' → y = y' → br b x y = br b' x' y' := fun h1 h2 h3 => by rw [h1, h2, h3]
   unfold askRight_P
   refine e2 (by rw [hk]) rfl (e2 (by rfl) rfl (e2 rfl rfl (e2 rfl rfl ?_)))
   obtain ⟨f, at1, n, v, an, o, bs, ws, ra, rn, c, ob⟩ := a
   rcases (known_iff f).1 hk with rfl | rfl | rfl | rfl | rfl | rfl | rfl | rfl | rfl | rfl | rfl
   all_goals simp only [Int.reduceBEq, brfzA, brtzA]
   ·rfl
   ·rfl
   ·rfl
   ·rfl
   ·rfl
   ·rfl
   ·rw [brAnd]
    show _ = some ((decide (1 ≤ n) && (decide (n ≤ 1968) && (((bs.length : Nat) : Int) == n)), ()), (), ())
    rw [← Bool.and_assoc]; rfl
   ·rw [brAnd]
    show _ = some ((decide (1 ≤ n) && (decide (n ≤ 123) && (((ws.length : Nat) : Int) == n)), ()), (), ())
    rw [← Bool.and_assoc]; rfl
   ·rfl
   ·rw [brAnd]
    show br (!(decide (1 ≤ rn) && decide (rn ≤ 125))) _ _ = some ((decide (1 ≤ n) && (decide (n ≤ 121) && ((((ws.length : Nat) : Int) == n) && (decide (1 ≤ rn) && decide (rn ≤ 125)))), ()), (), ())
    cases h : (decide (1 ≤ rn) && decide (rn ≤ 125)) with
    | false => show some _ = _; simp
    | true =>
     show some (((decide (1 ≤ n) && decide (n ≤ 121)) && (((ws.length : Nat) : Int) == n), ()), (), ()) = _
     rw [Bool.and_true, Bool.and_assoc]
   ·rw [brAnd, brAnd]
    show some (((decide (1 ≤ c) && decide (c ≤ 4)) && (decide (ob ≥ 0) && decide (ob ≤ 255)), ()), (), ()) = some ((decide (1 ≤ c) && (decide (c ≤ 4) && byteN ob), ()), (), ())
    rw [Bool.and_assoc]; rfl
  rw [hp, hs]
  cases plainA a <;> cases placeN a.2.1 <;> cases placeN a.2.2.2.2.2.2.2.2.1 <;> rfl
theorem v_askSpans : Valid Try.prog n_askSpans c_askSpans := by
 refine valid_fnc mixed hf_askSpans (by kernel_rfl) rfl (cfg := cfgW g_askSpans) tt_ok (Γok_cons v_askRight (Γok_cons v_table Γok_nil)) askSpans_tm c_askSpans (by kernel_rfl) (fun _ _ _ _ => ⟨⟩) ?_
 rintro ⟨(a : AskT), ⟨⟩⟩ r u h
 obtain ⟨h1, h2⟩ := grd_some h
 refine ⟨0, (askSpans_rn _ a).trans (Eq.trans ?_ (congrArg some h2))⟩
 show bd (grd (askW a) ((askOk a, ()), (), ())) _ = some (((spansA a).1, (spansA a).2, ()), ((), ()))
 rw [bd_grd h1]
 unfold spansA
 cases hk : askOk a with
 | false => rfl
 | true =>
  obtain ⟨f, at1, n, v, an, o, bs, ws, ra, rn, c, ob⟩ := a
  unfold askOk sizeA at hk
  simp only [Bool.and_eq_true, aFn, aAt, aN, aVal, aAnd, aOr, aBits, aWords, aRAt, aRN, aCode, aObj, placeN, inN, byteN, decide_eq_true_eq] at hk
  obtain ⟨h1, _, h2, h3, h4⟩ := hk
  rcases (known_iff f).1 h1 with rfl | rfl | rfl | rfl | rfl | rfl | rfl | rfl | rfl | rfl | rfl
  all_goals simp at h4
  all_goals first
   | (refine Eq.trans (b := some (([((tabS _).1, at1, IntKind.i64.wrap (at1 + n))], [], ()), (), ())) rfl ?_
      rw [wrapI (n := at1 + n) (by omega) (by omega)]
      rfl)
   | (refine Eq.trans (b := some (([], [((tabS _).1, at1, IntKind.i64.wrap (at1 + 1))], ()), (), ())) rfl ?_
      rw [wrapI (n := at1 + 1) (by omega) (by omega)]
      rfl)
   | (refine Eq.trans (b := some (([], [((tabS _).1, at1, IntKind.i64.wrap (at1 + n))], ()), (), ())) rfl ?_
      rw [wrapI (n := at1 + n) (by omega) (by omega)]
      rfl)
   | (refine Eq.trans (b := some (([((tabS _).1, ra, IntKind.i64.wrap (ra + rn))], [((tabS _).1, at1, IntKind.i64.wrap (at1 + n))], ()), (), ())) rfl ?_
      rw [wrapI (n := at1 + n) (by omega) (by omega), wrapI (n := ra + rn) (by omega) (by omega)]
      rfl)
   | rfl
theorem v_tellEcho : Valid Try.prog n_tellEcho c_tellEcho := by
 refine valid_fnc mixed hf_tellEcho (by kernel_rfl) rfl (cfg := cfgW g_tellEcho) tt_ok (Γok_cons v_askRight Γok_nil) tellEcho_tm c_tellEcho (by kernel_rfl) (fun _ _ _ _ => ⟨⟩) ?_
 rintro ⟨(a : AskT), ⟨⟩⟩ r u h
 obtain ⟨h1, h2⟩ := grd_some h
 refine ⟨0, (tellEcho_rn _ a).trans (Eq.trans ?_ (congrArg some h2))⟩
 show bd (grd (askW a) ((askOk a, ()), (), ())) _ = some ((echoA a, ()), ((), ()))
 rw [bd_grd h1]
 unfold echoA
 cases hk : askOk a with
 | false => rfl
 | true =>
  obtain ⟨f, at1, n, v, an, o, bs, ws, ra, rn, c, ob⟩ := a
  have h1 : knownS f = true := by
   unfold askOk at hk
   simp only [Bool.and_eq_true] at hk
   exact hk.1
  rcases (known_iff f).1 h1 with rfl | rfl | rfl | rfl | rfl | rfl | rfl | rfl | rfl | rfl | rfl <;> rfl
end Go.BB
