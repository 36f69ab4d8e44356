/- A symbolic machine for the model's code, and what it shows of this seat's functions. No conditions. -/
import Derived.Test.YtnofmeckcimodaaFGfgb
import Derived.Test.YtnofmeckcimodaaFVfgb
import Derived.Test.YtnofmeckcimodaaFN
set_option linter.unusedSimpArgs false
set_option linter.unusedVariables false
namespace Go.BB
open Go Go.Proofs
set_option maxRecDepth 100000
abbrev RRRes := Option ((Int × Unit) × Unit × Unit)
def rrN (rec1 : List Deed × (List Cel × Unit) × Int × Unit → RRRes) (rec6 : List Deed × (List Cel × Unit) × Int × Int × Unit → RRRes) (l : List Deed) (m : List Cel) (i k : Int) : RRRes :=
  br (decide (0 ≤ i)) (br (decide (i < (l.length : Int))) (br (decide (k < ((l.getD i.toNat zDeed).2.2.1.length : Int)))
   (br (decide (0 ≤ i)) (br (decide (i < (l.length : Int))) (br (decide (0 ≤ k)) (br (decide (k < ((l.getD i.toNat zDeed).2.2.1.length : Int)))
    (bd (grd (decide (m.length ≤ 400000) && (bufS m && (askLen ((l.getD i.toNat zDeed).2.2.1.getD k.toNat zStep).1 && (decide ((aBits ((l.getD i.toNat zDeed).2.2.1.getD k.toNat zStep).1).length ≤ 100000) && decide ((aWords ((l.getD i.toNat zDeed).2.2.1.getD k.toNat zStep).1).length ≤ 100000)))))
     (((doR m ((l.getD i.toNat zDeed).2.2.1.getD k.toNat zStep).1).1.1, (doR m ((l.getD i.toNat zDeed).2.2.1.getD k.toNat zStep).1).1.2, ()), ((doR m ((l.getD i.toNat zDeed).2.2.1.getD k.toNat zStep).1).2, ()), (), ())) fun (x12 : (TellT × Bool × Unit) × (List Cel × Unit) × Unit × Unit) =>
     br (!x12.1.2.1) (some ((i, ()), (), ())) (br (decide (0 ≤ i)) (br (decide (i < (l.length : Int))) (br (decide (0 ≤ k)) (br (decide (k < ((l.getD i.toNat zDeed).2.2.1.length : Int)))
      (bd (grd (tellLen x12.1.1) ((sameTellB x12.1.1 ((l.getD i.toNat zDeed).2.2.1.getD k.toNat zStep).2, ()), (), (), ())) fun (x13 : (Bool × Unit) × Unit × Unit × Unit) =>
       br (!x13.1.1) (some ((i, ()), (), ())) (rec6 (l, (x12.2.1.1, ()), i, IntKind.i64.wrap (k + 1), ()))) none) none) none) none)) none) none) none) none)
   (br (decide (0 ≤ i)) (br (decide (i < (l.length : Int))) (bd (grd (decide (m.length ≤ 500000) && (bufS m && decide ((l.getD i.toNat zDeed).2.2.2.length ≤ 100000))) ((), (setR m (l.getD i.toNat zDeed).2.2.2, ()), (), ())) fun (x14 : Unit × (List Cel × Unit) × Unit × Unit) =>
    rec1 (l, (x14.2.1.1, ()), IntKind.i64.wrap (i + 1), ())) none) none)) none) none
def rrN_L1 (rec1 : List Deed × (List Cel × Unit) × Int × Unit → RRRes) (rec6 : List Deed × (List Cel × Unit) × Int × Int × Unit → RRRes) : List Deed × (List Cel × Unit) × Int × Int × Unit → RRRes := fun x => rrN rec1 rec6 x.1 x.2.1.1 x.2.2.1 x.2.2.2.1
def rrN_L2 (K : Nat) (rec1 : List Deed × (List Cel × Unit) × Int × Unit → RRRes) : List Deed × (List Cel × Unit) × Int × Unit → RRRes := fun x => br (decide (x.2.2.1 < (x.1.length : Int))) (loopN (rrN_L1 rec1) K (x.1, (x.2.1.1, ()), x.2.2.1, 0, ())) (some (((x.1.length : Int), ()), (), ()))
theorem rrN_rn (K : Nat) (l : List Deed) : runF (cfgW g_rreplays) K f_rreplays rreplays_tm [.val (.slice tDeed)] [.val tI] (l, ()) = loopN (rrN_L2 K) K (l, ([], ()), 0, ()) := by kernel_rfl
def resO (l : List Deed) (m : List Cel) (i : Nat) : RRRes := some ((((i + replaysR m (l.drop i) : Nat) : Int), ()), ((), ()))
def resI (l : List Deed) (f : List Cel) (m : List Cel) (i : Nat) (rest : List StepT) : RRRes := if (playR m rest).1 then resO l (setR (playR m rest).2 f) (i + 1) else some (((i : Int), ()), (), ())
theorem rreplays_in (K : Nat) (hK : 3 < K) (rec1 : List Deed × (List Cel × Unit) × Int × Unit → RRRes) (l : List Deed) (hl : deedsW l = true) (i : Nat) (hi : i < l.length) (m0 : List Cel) (hm0 : bufS m0 = true) (hn0 : m0.length ≤ 100 * i)
  (hrec : ∀ m, bufS m = true → m.length ≤ 100 * (i + 1) → rec1 (l, (m, ()), ((i + 1 : Nat) : Int), ()) = resO l m (i + 1)) :
  loopN (rrN_L1 rec1) K (l, (m0, ()), (i : Int), 0, ()) = resI l (l.getD i zDeed).2.2.2 m0 i (l.getD i zDeed).2.2.1 := by
 obtain ⟨g1, g2⟩ := deedsW_iff.1 hl
 obtain ⟨d1, d2, d3, d4⟩ := deedW_iff.1 (g2 _ (getD_mem hi zDeed))
 have ei : ((i : Nat) : Int).toNat = i := by omega
 have e0 : resI l (l.getD i zDeed).2.2.2 m0 i (l.getD i zDeed).2.2.1 = resI l (l.getD i zDeed).2.2.2 m0 i ((l.getD i zDeed).2.2.1.drop 0) := by rw [List.drop_zero]
 rw [e0]
 refine loopN_meas (fun x => (l.getD i zDeed).2.2.1.length - x.2.2.2.1.toNat) (fun x => ∃ (k : Nat) (m : List Cel), k ≤ (l.getD i zDeed).2.2.1.length ∧ bufS m = true ∧ m.length ≤ 100 * i + 24 * k ∧ x = (l, (m, ()), (i : Int), (k : Int), ()))
  (fun x => resI l (l.getD i zDeed).2.2.2 x.2.1.1 i ((l.getD i zDeed).2.2.1.drop x.2.2.2.1.toNat)) ?_ _ (l, (m0, ()), (i : Int), 0, ()) ⟨0, m0, by omega, hm0, by omega, rfl⟩ (by simp only; omega)
 rintro x ⟨k, m, hk, hm, hn, rfl⟩ rec hrec6
 have ek : ((k : Nat) : Int).toNat = k := by omega
 show rrN rec1 rec l m (i : Int) (k : Int) = _
 unfold rrN
 simp only [ei, ek]
 rw [br_dt (by omega), br_dt (by omega)]
 by_cases h : k < (l.getD i zDeed).2.2.1.length
 ·have hs := d3 _ (getD_mem h zStep)
  obtain ⟨s1, s2, s3, s4⟩ := stepW_iff.1 hs
  rw [br_dt (by omega), br_dt (by omega), br_dt (by omega), br_dt (by omega), br_dt (by omega), drop_at h zStep]
  generalize (l.getD i zDeed).2.2.1.getD k zStep = st at hs s1 s2 s3 s4
  rw [bd_grd (and_t (decide_eq_true (by omega)) (and_t hm (and_t (stepW_len hs) (and_t (decide_eq_true (by omega)) (decide_eq_true (by omega))))))]
  simp only
  unfold resI playR
  have ht := doR_tell m st.1
  obtain ⟨r1, r2⟩ := doR_reg hm st.1
  cases hq : (doR m st.1).1.2 with
  | false => rw [br_t (by rfl)]; rfl
  | true =>
   rw [br_f (by rfl), br_dt (by omega), br_dt (by omega), br_dt (by omega), br_dt (by omega), bd_grd ht]
   simp only
   cases hq2 : sameTellB (doR m st.1).1.1 st.2 with
   | false => rw [br_t (by rfl)]; rfl
   | true =>
    rw [br_f (by rfl), wrapI (by omega) (by omega)]
    exact hrec6 _ ⟨k + 1, _, by omega, r1, by omega, rfl⟩ (by simp only; omega)
 ·have : k = (l.getD i zDeed).2.2.1.length := by omega
  obtain ⟨k1, k2⟩ := setR_ok (l.getD i zDeed).2.2.2 m hm
  rw [br_df (by omega), br_dt (by omega), br_dt (by omega), bd_grd (and_t (decide_eq_true (by omega)) (and_t hm (decide_eq_true (by omega)))), this, List.drop_length, wrapI (by omega) (by omega)]
  exact hrec (setR m (l.getD i zDeed).2.2.2) k1 (by omega)
theorem v_rreplays : Valid Try.prog n_rreplays c_rreplays := by
 refine valid_fn mixed hf_rreplays (by kernel_rfl) rfl (ts := tmpsOf f_rreplays.results.toList) (by kernel_rfl) (cfg := cfgW g_rreplays) tt_ok (Γok_cons v_rfdo (Γok_cons v_sameTell (Γok_cons v_rfset Γok_nil))) rreplays_tm c_rreplays (by kernel_rfl) (fun _ _ _ _ => ⟨⟩) ?_
 rintro ⟨(l : List Deed), ⟨⟩⟩ r u h
 obtain ⟨h1, h2⟩ := grd_some h
 have hl : deedsW l = true := h1
 obtain ⟨g1, g2⟩ := deedsW_iff.1 hl
 refine ⟨l.length + 5, (rrN_rn _ l).trans (Eq.trans ?_ (congrArg some h2))⟩
 show loopN (rrN_L2 (l.length + 5)) (l.length + 5) (l, ([], ()), 0, ()) = some ((((replaysR [] l : Nat) : Int), ()), ((), ()))
 have e0 : (some ((((replaysR [] l : Nat) : Int), ()), ((), ())) : RRRes) = resO l [] 0 := by unfold resO; rw [Nat.zero_add, List.drop_zero]
 rw [e0]
 refine loopN_meas (fun x => l.length - x.2.2.1.toNat) (fun x => ∃ (i : Nat) (m : List Cel), i ≤ l.length ∧ bufS m = true ∧ m.length ≤ 100 * i ∧ x = (l, (m, ()), (i : Int), ())) (fun x => resO l x.2.1.1 x.2.2.1.toNat) ?_ _ (l, ([], ()), 0, ()) ⟨0, [], by omega, rfl, by simp, rfl⟩ (by simp only; omega)
 rintro x ⟨i, m, hi, hm, hn, rfl⟩ rec hrec
 have ei : ((i : Nat) : Int).toNat = i := by omega
 simp only [ei]
 show br (decide ((i : Int) < (l.length : Int))) (loopN (rrN_L1 rec) (l.length + 5) (l, (m, ()), (i : Int), 0, ())) (some ((((l.length : Nat) : Int), ()), (), ())) = _
 by_cases h : i < l.length
 ·rw [br_dt (by omega), rreplays_in _ (by omega) rec l hl i h m hm hn fun m' h3 h4 => (hrec _ ⟨i + 1, m', by omega, h3, h4, rfl⟩ (by simp only; omega)).trans (by simp only [show (((i + 1 : Nat) : Int)).toNat = i + 1 by omega])]
  unfold resI
  have e1 : resO l m i = some ((((i + replaysR m (l.getD i zDeed :: l.drop (i + 1)) : Nat) : Int), ()), ((), ())) := by unfold resO; rw [drop_at h zDeed]
  rw [e1]
  unfold replaysR replayR
  by_cases hp : (playR m (l.getD i zDeed).2.2.1).1 = true
  ·rw [if_pos hp, if_pos hp, if_pos rfl]
   unfold resO
   rw [show i + 1 + replaysR (setR (playR m (l.getD i zDeed).2.2.1).2 (l.getD i zDeed).2.2.2) (l.drop (i + 1)) = i + (replaysR (setR (playR m (l.getD i zDeed).2.2.1).2 (l.getD i zDeed).2.2.2) (l.drop (i + 1)) + 1) by omega]
  ·rw [if_neg hp, if_neg hp]
   rfl
 ·have : i = l.length := by omega
  subst this
  rw [br_df (by omega)]
  unfold resO
  rw [List.drop_length]
  rfl
end Go.BB
set_option linter.unusedVariables false
namespace Go.BB
open Go Go.Proofs
set_option maxRecDepth 100000
set_option exponentiation.threshold 100000
noncomputable section
abbrev g_cellsV : List (Nat × Ctr O0) := [(n_cell, c_cell), (n_rput, c_rput)]
def cellsV_tm : List Tm := [[((0 : Nat), none, Sh.val (Ty.int IntKind.i64).slice), ((3 : Nat), none, Sh.own (((Ty.int IntKind.i64).pair (Ty.int IntKind.i64)).pair (Ty.int IntKind.u16))), ((4 : Nat), none, Sh.val (Ty.int IntKind.i64))]]
def cellsV_L1 (rec1 : List Int × List ((Int × Int) × Int) × Int × Unit → Option ((List ((Int × Int) × Int) × Unit) × Unit × Unit)) : List Int × List ((Int × Int) × Int) × Int × Unit → Option ((List ((Int × Int) × Int) × Unit) × Unit × Unit) := fun (y3, y4, y5, ()) => br (decide (y5 < (↑y3.length : Int))) (br (decide (y5 < (20 : Int))) (br (decide ((0 : Int) ≤ y5)) (br (decide (y5 < (↑y3.length : Int))) (bd (grd (lenOk y4 && bufS y4) ((putK y4 (((cellS (y3.getD y5.toNat (0 : Int))).1.1, (cellS (y3.getD y5.toNat (0 : Int))).1.2), (cellS (y3.getD y5.toNat (0 : Int))).2), ()), (), (), ())) fun (x6 : (List ((Int × Int) × Int) × Unit) × Unit × Unit × Unit) => rec1 (y3, x6.1.1, IntKind.i64.wrap (y5 + (1 : Int)), ())) none) none) (some ((y4, ()), (), ()))) (some ((y4, ()), (), ()))
def cellsV_P (K : Nat) (a0 : List Int) : Option ((List ((Int × Int) × Int) × Unit) × Unit × Unit) := loopN cellsV_L1 K (a0, [], (0 : Int), ())
theorem cellsV_rn (K : Nat) (a0 : List Int) : runF (cfgW g_cellsV) K f_cellsV cellsV_tm [.val (.slice tI)] [.val (.slice tCell)] (a0, ()) = cellsV_P K a0 := by kernel_rfl
end
end Go.BB
