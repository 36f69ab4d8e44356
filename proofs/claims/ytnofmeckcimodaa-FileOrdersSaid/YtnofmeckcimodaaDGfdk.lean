/- A symbolic machine for the model's code, and what it shows of this seat's functions. No conditions. -/
import Derived.Test.YtnofmeckcimodaaDGfdv
import Derived.Test.YtnofmeckcimodaaDGfdi
import Derived.Test.YtnofmeckcimodaaDGfda
import Derived.Test.YtnofmeckcimodaaDGfdf
import Derived.Test.YtnofmeckcimodaaDLDeeds
import Derived.Test.YtnofmeckcimodaaDN
set_option linter.unusedSimpArgs false
set_option linter.unusedVariables false
namespace Go.BB
open Go Go.Proofs
set_option maxRecDepth 100000
theorem v_cellsV : Valid Try.prog n_cellsV c_cellsV := by
  refine valid_fn mixed hf_cellsV (by kernel_rfl) rfl (ts := tmpsOf f_cellsV.results.toList) (by kernel_rfl) (cfg := cfgW g_cellsV) tt_ok (Γok_cons v_cell (Γok_cons v_rput Γok_nil)) cellsV_tm c_cellsV (by kernel_rfl) (fun _ _ _ _ => ⟨⟩) ?_
  rintro ⟨(l : List Int), ⟨⟩⟩ r u h
  refine ⟨22, (cellsV_rn _ _).trans (Eq.trans ?_ h)⟩
  show cellsV_P 22 l = some ((cellsS l, ()), (), ())
  unfold cellsV_P
  have hlen : (l.take 20).length ≤ 20 ∧ (l.take 20).length ≤ l.length := by rw [List.length_take]; omega
  refine loopN_for (step := cellsV_L1) (l.take 20).length (fun i => (l, cellsR (l.take i), (i : Int), ())) (fun i hi rec => ?_) (fun rec => ?_) _ (by omega)
  · simp only [cellsV_L1, Int.toNat_natCast, mk_eta]
    have h20 : i < 20 ∧ i < l.length := by rw [List.length_take] at hi; omega
    have hb : bufS (cellsR (l.take i)) = true := foldl_buf _ _ rfl
    have hn : (cellsR (l.take i)).length ≤ 20 := by
      have := foldl_len (l.take i) []
      unfold cellsR
      rw [List.length_take] at this
      simp at this
      omega
    rw [br_dt (by omega), br_dt (by omega), br_dt (by omega), br_dt (by omega), bd_grd (by rw [hb]; simp [lenOk]; omega), wrapI (n := (i : Int) + 1) (by omega) (by omega)]
    simp only
    congr 1
    refine Prod.ext rfl (Prod.ext ?_ rfl)
    show putK _ _ = cellsR _
    rw [take_snoc l i 0 h20.2]
    unfold cellsR
    rw [List.foldl_append, putK_eq]
    rfl
  · simp only [cellsV_L1]
    rw [cellsS_eq]
    by_cases h : l.length ≤ 20
    · have e : l.take 20 = l := List.take_of_length_le h
      rw [e, br_df (by omega), List.take_length]
    · have e : (l.take 20).length = 20 := by rw [List.length_take]; omega
      rw [e, br_dt (by omega), br_df (by omega)]
abbrev DeedsRes := Option ((List Deed × List Deed × Unit) × Unit × Unit × Unit × Unit)
abbrev DU := Bool × Int × List StepT × Unit × Unit
abbrev DS1 := List Int × List Int × Bool × List Deed × List Deed × (List Cel × Unit) × Int × Unit
abbrev DS2 := List Int × List Int × Bool × List Deed × List Deed × (List Cel × Unit) × Int × DU × DU × Int × Unit
theorem deeds_L2_eq : deeds_L2 = deeds_L1 := by kernel_rfl
/-- a deed is laid down -/
def dLay (rec1 : DS1 → DeedsRes) (as1 bs : List Int) (right : Bool) (l m : List Deed) (x : List Cel) (i : Int) (d e : Deed) : DeedsRes :=
  br (decide ((l.length + [d].length) * 64 ≤ LIM)) (br (decide (l.length + [d].length ≤ LIM)) (br (decide ((m.length + [e].length) * 64 ≤ LIM)) (br (decide (m.length + [e].length ≤ LIM))
    (rec1 (as1, bs, right, cat l [d], cat m [e], (x, ()), IntKind.i64.wrap (i + 1), ())) none) none) none) none
def fldI (bs : List Int) (i : Int) : List Cel := cellsS (List.take ((minI (IntKind.i64.wrap (i + 2)) (↑bs.length : Int)).toNat - (minI i (↑bs.length : Int)).toNat) (List.drop (minI i (↑bs.length : Int)).toNat bs))
/-- behind the steps -/
def dTail (rec1 : DS1 → DeedsRes) (as1 bs : List Int) (right : Bool) (l m : List Deed) (x : List Cel) (i : Int) (w : Bool) (s : Int) (P : List StepT) (w' : Bool) (s' : Int) (P' : List StepT) : DeedsRes :=
  br (decide (0 ≤ i)) (br (decide (i < (↑as1.length : Int))) (bd (grd (true && (true && decide ((4 : Int) < 4611686018427387904))) ((digitS (as1.getD i.toNat 0) 48 4, ()), (), (), (), ())) fun (x30 : (Int × Unit) × Unit × Unit × Unit × Unit) =>
    br (x30.1.1 == 0) (br (decide (0 ≤ minI i (↑bs.length : Int))) (br (decide (minI i (↑bs.length : Int) ≤ minI (IntKind.i64.wrap (i + 2)) (↑bs.length : Int))) (br (decide (minI (IntKind.i64.wrap (i + 2)) (↑bs.length : Int) ≤ (↑bs.length : Int)))
      (bd (grd (decide (x.length ≤ 500000) && (bufS x && decide ((fldI bs i).length ≤ 100000))) ((), (setR x (fldI bs i), ()), (), ())) fun (x31 : Unit × (List Cel × Unit) × Unit × Unit) =>
        dLay rec1 as1 bs right l m x31.2.1.1 i (w, s, P, fldI bs i) (w', s', P', fldI bs i)) none) none) none)
      (dLay rec1 as1 bs right l m x i (w, s, P, []) (w', s', P', []))) none) none
/-- a step is laid down -/
def dStep (rec14 : DS2 → DeedsRes) (as1 bs : List Int) (right : Bool) (l m : List Deed) (x : List Cel) (i : Int) (w : Bool) (s : Int) (P : List StepT) (w' : Bool) (s' : Int) (P' : List StepT) (k : Int) (st : StepT) : DeedsRes :=
  br (decide ((P.length + [st].length) * 256 ≤ LIM)) (br (decide (P.length + [st].length ≤ LIM)) (br (decide ((P'.length + [st].length) * 256 ≤ LIM)) (br (decide (P'.length + [st].length ≤ LIM))
    (rec14 (as1, bs, right, l, m, (x, ()), i, (w, s, cat P [st], (), ()), (w', s', cat P' [st], (), ()), IntKind.i64.wrap (k + 1), ())) none) none) none) none
theorem deeds_L1_eq (rec1 : DS1 → DeedsRes) (rec14 : DS2 → DeedsRes) (as1 bs : List Int) (right : Bool) (l m : List Deed) (x : List Cel) (i : Int) (w : Bool) (s : Int) (P : List StepT) (w' : Bool) (s' : Int) (P' : List StepT) (k : Int) :
    deeds_L1 rec1 rec14 (as1, bs, right, l, m, (x, ()), i, (w, s, P, (), ()), (w', s', P', (), ()), k, ()) =
    br (decide (0 ≤ i)) (br (decide (i < (↑as1.length : Int))) (bd (grd (true && (true && decide ((4 : Int) < 4611686018427387904))) ((digitS (as1.getD i.toNat 0) 12 4, ()), (), (), (), ())) fun (x26 : (Int × Unit) × Unit × Unit × Unit × Unit) =>
      br (decide (k < x26.1.1)) (bd (grd (decide (0 < IntKind.i64.wrap (1 + k)) && (decide ((0 : Int) < 1099511627776) && decide ((1099511627776 : Int) < 4611686018427387904))) ((digitS (atS bs (IntKind.i64.wrap (i + k))) (IntKind.i64.wrap (1 + k)) 1099511627776, ()), (), (), (), ())) fun (x27 : (Int × Unit) × Unit × Unit × Unit × Unit) =>
        bd (grd (decide (x.length ≤ 400000) && (bufS x && (askLen (askS x27.1.1 (atS bs (IntKind.i64.wrap (i + k)))) && (decide ((aBits (askS x27.1.1 (atS bs (IntKind.i64.wrap (i + k))))).length ≤ 100000) && decide ((aWords (askS x27.1.1 (atS bs (IntKind.i64.wrap (i + k))))).length ≤ 100000))))) (((doR x (askS x27.1.1 (atS bs (IntKind.i64.wrap (i + k))))).1.1, (doR x (askS x27.1.1 (atS bs (IntKind.i64.wrap (i + k))))).1.2, ()), ((doR x (askS x27.1.1 (atS bs (IntKind.i64.wrap (i + k))))).2, ()), (), ())) fun (x28 : (TellT × Bool × Unit) × (List Cel × Unit) × Unit × Unit) =>
          br (!x28.1.2.1)
            (bd (grd (decide (x28.2.1.1.length ≤ 400000) && (bufS x28.2.1.1 && (askLen askD && (decide (0 ≤ 100000) && decide (0 ≤ 100000))))) (((doR x28.2.1.1 askD).1.1, (doR x28.2.1.1 askD).1.2, ()), ((doR x28.2.1.1 askD).2, ()), (), ())) fun (x29 : (TellT × Bool × Unit) × (List Cel × Unit) × Unit × Unit) =>
              dStep rec14 as1 bs right l m x29.2.1.1 i w s P w' s' P' k (askD, x29.1.1))
            (dStep rec14 as1 bs right l m x28.2.1.1 i w s P w' s' P' k (askS x27.1.1 (atS bs (IntKind.i64.wrap (i + k))), x28.1.1)))
        (dTail rec1 as1 bs right l m x i w s P w' s' P')) none) none := by kernel_rfl
theorem dStep_eq (rec14 : DS2 → DeedsRes) (as1 bs : List Int) (right : Bool) (l m : List Deed) (x : List Cel) (i : Int) (w : Bool) (s : Int) (P : List StepT) (k : Nat) (st : StepT) (hP : P.length ≤ 1000) (hk : k ≤ 1000) :
    dStep rec14 as1 bs right l m x i w s P w s P (k : Int) st = rec14 (as1, bs, right, l, m, (x, ()), i, (w, s, P ++ [st], (), ()), (w, s, P ++ [st], (), ()), ((k + 1 : Nat) : Int), ()) := by
  unfold dStep
  simp only [List.length_singleton]
  rw [br_dt (by unfold LIM; omega), br_dt (by unfold LIM; omega), br_dt (by unfold LIM; omega), br_dt (by unfold LIM; omega), wrapI (by omega) (by omega)]
  rfl
theorem dLay_eq (rec1 : DS1 → DeedsRes) (as1 bs : List Int) (right : Bool) (l : List Deed) (x : List Cel) (i : Nat) (d : Deed) (hl : l.length ≤ 1000) (hi : i ≤ 1000) :
    dLay rec1 as1 bs right l l x (i : Int) d d = rec1 (as1, bs, right, l ++ [d], l ++ [d], (x, ()), ((i + 1 : Nat) : Int), ()) := by
  unfold dLay
  simp only [List.length_singleton]
  rw [br_dt (by unfold LIM; omega), br_dt (by unfold LIM; omega), br_dt (by unfold LIM; omega), br_dt (by unfold LIM; omega), wrapI (by omega) (by omega)]
  rfl
theorem fldI_eq (bs : List Int) (i : Nat) (hi : i ≤ 1000) : fldI bs (i : Int) = cellsS ((bs.drop (min i bs.length)).take (min (i + 2) bs.length - min i bs.length)) := by
  unfold fldI
  rw [wrapI (by omega) (by omega), minI_eq, minI_eq]
  congr 2
  · omega
  · congr 1; omega
theorem dTail_eq (rec1 : DS1 → DeedsRes) (as1 bs : List Int) (right : Bool) (l : List Deed) (x : List Cel) (i : Nat) (w : Bool) (s : Int) (P : List StepT) (hi : i < as1.length) (hi2 : i ≤ 1000) (hl : l.length ≤ 1000) (hx : x.length ≤ 300000) (hb : bufS x = true) :
    dTail rec1 as1 bs right l l x (i : Int) w s P w s P = rec1 (as1, bs, right, l ++ [(w, s, P, fieldD as1 bs i)], l ++ [(w, s, P, fieldD as1 bs i)], (setR x (fieldD as1 bs i), ()), ((i + 1 : Nat) : Int), ()) := by
  unfold dTail
  have e1 : ((i : Nat) : Int).toNat = i := by omega
  rw [br_dt (by omega), br_dt (by omega), bd_grd (by decide), e1]
  unfold fieldD
  simp only
  by_cases h : digitS (as1.getD i 0) 48 4 = 0
  · rw [if_pos h, br_t (by rw [h]; rfl)]
    rw [br_dt (by rw [minI_eq]; omega), br_dt (by rw [wrapI (by omega) (by omega), minI_eq, minI_eq]; omega), br_dt (by rw [wrapI (by omega) (by omega), minI_eq]; omega)]
    have hc := cellsS_len ((bs.drop (min i bs.length)).take (min (i + 2) bs.length - min i bs.length))
    rw [← fldI_eq bs i hi2] at hc ⊢
    rw [bd_grd (and_t (decide_eq_true (by omega)) (and_t hb (decide_eq_true (by omega)))), dLay_eq _ _ _ _ _ _ _ _ hl hi2]
  · rw [if_neg h, br_f (by simpa using h), dLay_eq _ _ _ _ _ _ _ _ hl hi2]
    rfl
theorem deeds_in (K : Nat) (hK : 4 < K) (rec1 : DS1 → DeedsRes) (as1 bs : List Int) (right : Bool) (l : List Deed) (x : List Cel) (i : Nat) (w : Bool) (s : Int) (hi : i < as1.length) (hi2 : i ≤ 1000) (hl : l.length ≤ 1000) (hx : x.length ≤ 200000) (hb : bufS x = true) :
    loopN (deeds_L1 rec1) K (as1, bs, right, l, l, (x, ()), (i : Int), (w, s, [], (), ()), (w, s, [], (), ()), 0, ()) =
      rec1 (as1, bs, right, l ++ [(w, s, (stepsD bs i x (digitS (as1.getD i 0) 12 4).toNat).1, fieldD as1 bs i)], l ++ [(w, s, (stepsD bs i x (digitS (as1.getD i 0) 12 4).toNat).1, fieldD as1 bs i)],
        (setR (stepsD bs i x (digitS (as1.getD i 0) 12 4).toNat).2 (fieldD as1 bs i), ()), ((i + 1 : Nat) : Int), ()) := by
  have hn := digitS_range (as1.getD i 0) 12 (n := 4) (by decide)
  have e1 : ((i : Nat) : Int).toNat = i := by omega
  refine loopN_for (step := deeds_L1 rec1) (digitS (as1.getD i 0) 12 4).toNat (fun k => (as1, bs, right, l, l, ((stepsD bs i x k).2, ()), (i : Int), (w, s, (stepsD bs i x k).1, (), ()), (w, s, (stepsD bs i x k).1, (), ()), (k : Int), ())) (fun k hk rec14 => ?_) (fun rec14 => ?_) K (by omega)
  · obtain ⟨g1, g2, g3, g4⟩ := stepsD_ok bs i hb k
    rw [deeds_L1_eq, br_dt (by omega), br_dt (by omega), bd_grd (by decide), e1]
    simp only
    rw [br_dt (by omega), wrapI (n := 1 + (k : Int)) (by omega) (by omega), wrapI (n := (i : Int) + (k : Int)) (by omega) (by omega), bd_grd (and_t (decide_eq_true (by omega)) (by decide))]
    simp only
    have hl2 := askS_len (digitS (atS bs ((i : Int) + (k : Int))) (1 + (k : Int)) 1099511627776) (atS bs ((i : Int) + (k : Int)))
    have ho := askS_ok (digitS (atS bs ((i : Int) + (k : Int))) (1 + (k : Int)) 1099511627776) (atS bs ((i : Int) + (k : Int)))
    have es : stepsD bs i x (k + 1) = ((stepsD bs i x k).1 ++ [(stepD bs i k (stepsD bs i x k).2).1], (stepD bs i k (stepsD bs i x k).2).2) := rfl
    rw [es]
    unfold stepD
    simp only
    generalize askS (digitS (atS bs ((i : Int) + (k : Int))) (1 + (k : Int)) 1099511627776) (atS bs ((i : Int) + (k : Int))) = a at hl2 ho ⊢
    obtain ⟨q1, q2⟩ := doR_reg g3 a
    rw [bd_grd (and_t (decide_eq_true (by omega)) (and_t g3 (and_t ho (and_t (decide_eq_true (by omega)) (decide_eq_true (by omega))))))]
    simp only
    cases hd : (doR (stepsD bs i x k).2 a).1.2 with
    | false =>
      rw [br_t (by rfl), bd_grd (and_t (decide_eq_true (by omega)) (and_t q1 (by decide)))]
      simp only
      rw [dStep_eq _ _ _ _ _ _ _ _ _ _ _ _ _ (by omega) (by omega)]
      rfl
    | true =>
      rw [br_f (by rfl), dStep_eq _ _ _ _ _ _ _ _ _ _ _ _ _ (by omega) (by omega)]
      rfl
  · obtain ⟨g1, g2, g3, g4⟩ := stepsD_ok bs i hb (digitS (as1.getD i 0) 12 4).toNat
    rw [deeds_L1_eq, br_dt (by omega), br_dt (by omega), bd_grd (by decide), e1]
    simp only
    rw [br_df (by omega), dTail_eq _ _ _ _ _ _ _ _ _ _ hi hi2 hl (by omega) g3]
theorem v_deeds : Valid Try.prog n_deeds c_deeds := by
  refine valid_fnc mixed hf_deeds (by kernel_rfl) rfl (cfg := cfgW g_deeds) tt_ok (Γok_cons v_within (Γok_cons v_digit (Γok_cons v_ati (Γok_cons v_ask (Γok_cons v_rfdo (Γok_cons v_cellsV (Γok_cons v_rfset Γok_nil))))))) deeds_tm c_deeds (by kernel_rfl) (fun _ _ _ _ => ⟨⟩) ?_
  rintro ⟨(as1 : List Int), (bs : List Int), (right : Bool), ⟨⟩⟩ r u h
  obtain ⟨h1, h2⟩ := grd_some h
  simp only [Bool.and_eq_true, decide_eq_true_eq] at h1
  obtain ⟨ha, hb⟩ := h1
  refine ⟨102, (deeds_rn _ _ _ _).trans (Eq.trans ?_ (congrArg some h2))⟩
  show loopN (deeds_L3 102) 102 (as1, bs, right, (deedsD as1 bs right 0).1, (deedsD as1 bs right 0).1, ((deedsD as1 bs right 0).2, ()), ((0 : Nat) : Int), ()) = some ((deedsS as1 bs right, deedsS as1 bs right, ()), (), (), (), ())
  refine loopN_for (step := deeds_L3 102) (min as1.length 20) (fun i => (as1, bs, right, (deedsD as1 bs right i).1, (deedsD as1 bs right i).1, ((deedsD as1 bs right i).2, ()), (i : Int), ())) (fun i hi rec => ?_) (fun rec => ?_) 102 (by omega)
  · obtain ⟨g1, g2, g3, g4⟩ := deedsD_ok as1 bs right i
    have e1 : ((i : Nat) : Int).toNat = i := by omega
    simp only [deeds_L3, deeds_L2_eq]
    have e6 := Int.emod_nonneg (as1.getD i 0) (show (6 : Int) ≠ 0 by decide)
    have e7 := Int.emod_lt_of_pos (as1.getD i 0) (show (0 : Int) < 6 by decide)
    rw [br_dt (by omega), br_dt (by omega), br_dt (by omega), br_dt (by omega), bd_grd (by decide), br_dt (by omega), br_dt (by omega), bd_grd (by decide), br_dt (by omega), br_dt (by omega), bd_grd (by decide), br_dt (by omega), br_dt (by omega), bd_grd (by decide)]
    simp only [e1]
    cases right with
    | true =>
      rw [brtz, wrapI (n := (i : Int) + 1) (by omega) (by omega), wrapU (n := (i : Int) + 1) (by omega) (by omega), deeds_in 102 (by omega) rec as1 bs true _ _ i true _ (by omega) (by omega) (by omega) (by omega) g3]
      rfl
    | false =>
      rw [brfz, wrapU (n := as1.getD i 0 % 6) (by omega) (by omega), deeds_in 102 (by omega) rec as1 bs false _ _ i _ _ (by omega) (by omega) (by omega) (by omega) g3]
      rfl
  · simp only [deeds_L3]
    unfold deedsS
    by_cases hl : as1.length ≤ 20
    · rw [br_df (by omega)]
    · rw [br_dt (by omega), br_df (by omega)]
end Go.BB
set_option linter.unusedVariables false
namespace Go.BB
open Go Go.Proofs
set_option maxRecDepth 100000
set_option exponentiation.threshold 100000
noncomputable section
abbrev g_sameAsk : List (Nat × Ctr O0) := [(n_r5sameBits, c_r5sameBits), (n_r5sameWords, c_r5sameWords)]
def sameAsk_tm : List Tm := []
def sameAsk_P (K : Nat) (a0 : AskT) (a1 : AskT) : Option ((Bool × Unit) × Unit × Unit × Unit) := br (a0.1 == a1.1) (br (a0.2.1 == a1.2.1) (br (a0.2.2.1 == a1.2.2.1) (br (a0.2.2.2.1 == a1.2.2.2.1) (br (a0.2.2.2.2.1 == a1.2.2.2.2.1) (br (a0.2.2.2.2.2.1 == a1.2.2.2.2.2.1) (bd (grd (lenOk a0.2.2.2.2.2.2.1) ((sameS a0.2.2.2.2.2.2.1 a1.2.2.2.2.2.2.1, ()), (), (), ())) fun (x1 : (Bool × Unit) × Unit × Unit × Unit) => br x1.1.1 (bd (grd (lenOk a0.2.2.2.2.2.2.2.1) ((sameS a0.2.2.2.2.2.2.2.1 a1.2.2.2.2.2.2.2.1, ()), (), (), ())) fun (x2 : (Bool × Unit) × Unit × Unit × Unit) => br x2.1.1 (br (a0.2.2.2.2.2.2.2.2.1 == a1.2.2.2.2.2.2.2.2.1) (br (a0.2.2.2.2.2.2.2.2.2.1 == a1.2.2.2.2.2.2.2.2.2.1) (br (a0.2.2.2.2.2.2.2.2.2.2.1 == a1.2.2.2.2.2.2.2.2.2.2.1) (some ((a0.2.2.2.2.2.2.2.2.2.2.2 == a1.2.2.2.2.2.2.2.2.2.2.2, ()), (), (), ())) (some ((false, ()), (), (), ()))) (some ((false, ()), (), (), ()))) (some ((false, ()), (), (), ()))) (some ((false, ()), (), (), ()))) (some ((false, ()), (), (), ()))) (some ((false, ()), (), (), ()))) (some ((false, ()), (), (), ()))) (some ((false, ()), (), (), ()))) (some ((false, ()), (), (), ()))) (some ((false, ()), (), (), ()))) (some ((false, ()), (), (), ()))
theorem sameAsk_rn (K : Nat) (a0 : AskT) (a1 : AskT) : runF (cfgW g_sameAsk) K f_sameAsk sameAsk_tm [.val tAsk, .val tAsk] [.val .bool] (a0, a1, ()) = sameAsk_P K a0 a1 := by kernel_rfl
abbrev g_sameTell : List (Nat × Ctr O0) := [(n_r5sameBits, c_r5sameBits), (n_r5sameWords, c_r5sameWords)]
def sameTell_tm : List Tm := [[((2 : Nat), none, ((Sh.val (Ty.int IntKind.i64)).cons ((Sh.val (Ty.int IntKind.i64)).cons ((Sh.val Ty.bool.slice).cons ((Sh.val (Ty.int IntKind.u16).slice).cons ((Sh.val (Ty.int IntKind.i64)).cons ((Sh.val (Ty.int IntKind.i64)).cons ((Sh.val (Ty.int IntKind.u16)).cons ((Sh.val (Ty.int IntKind.u16)).cons ((Sh.val (Ty.int IntKind.u16)).cons ((Sh.val (Ty.int IntKind.i64)).cons ((Sh.val (Ty.int IntKind.i64)).cons ((Sh.val Ty.bool).cons ((Sh.val (Ty.int IntKind.i64)).cons ((Sh.val ((Ty.int IntKind.i64).pair Ty.str).slice).cons Sh.unit)))))))))))))).ptr), ((3 : Nat), none, ((Sh.val (Ty.int IntKind.i64)).cons ((Sh.val (Ty.int IntKind.i64)).cons ((Sh.val Ty.bool.slice).cons ((Sh.val (Ty.int IntKind.u16).slice).cons ((Sh.val (Ty.int IntKind.i64)).cons ((Sh.val (Ty.int IntKind.i64)).cons ((Sh.val (Ty.int IntKind.u16)).cons ((Sh.val (Ty.int IntKind.u16)).cons ((Sh.val (Ty.int IntKind.u16)).cons ((Sh.val (Ty.int IntKind.i64)).cons ((Sh.val (Ty.int IntKind.i64)).cons ((Sh.val Ty.bool).cons ((Sh.val (Ty.int IntKind.i64)).cons ((Sh.val ((Ty.int IntKind.i64).pair Ty.str).slice).cons Sh.unit)))))))))))))).ptr), ((5 : Nat), none, Sh.val (Ty.int IntKind.i64))]]
def sameTell_L1 (rec1 : (Int × Int × List Bool × List Int × Int × Int × Int × Int × Int × Int × Int × Bool × Int × List (Int × ByteArray) × Unit) × (Int × Int × List Bool × List Int × Int × Int × Int × Int × Int × Int × Int × Bool × Int × List (Int × ByteArray) × Unit) × Int × Unit → Option ((Bool × Unit) × Unit × Unit × Unit)) : (Int × Int × List Bool × List Int × Int × Int × Int × Int × Int × Int × Int × Bool × Int × List (Int × ByteArray) × Unit) × (Int × Int × List Bool × List Int × Int × Int × Int × Int × Int × Int × Int × Bool × Int × List (Int × ByteArray) × Unit) × Int × Unit → Option ((Bool × Unit) × Unit × Unit × Unit) := fun (y3, y4, y5, ()) => br (decide (y5 < (↑y3.2.2.2.2.2.2.2.2.2.2.2.2.2.1.length : Int))) (br (decide ((0 : Int) ≤ y5)) (br (decide (y5 < (↑y3.2.2.2.2.2.2.2.2.2.2.2.2.2.1.length : Int))) (br (decide ((0 : Int) ≤ y5)) (br (decide (y5 < (↑y4.2.2.2.2.2.2.2.2.2.2.2.2.2.1.length : Int))) (br (!((y3.2.2.2.2.2.2.2.2.2.2.2.2.2.1.getD y5.toNat ((0 : Int), ByteArray.empty)).1 == (y4.2.2.2.2.2.2.2.2.2.2.2.2.2.1.getD y5.toNat ((0 : Int), ByteArray.empty)).1 && ByteArray.toList (y3.2.2.2.2.2.2.2.2.2.2.2.2.2.1.getD y5.toNat ((0 : Int), ByteArray.empty)).2 == ByteArray.toList (y4.2.2.2.2.2.2.2.2.2.2.2.2.2.1.getD y5.toNat ((0 : Int), ByteArray.empty)).2)) (some ((false, ()), (), (), ())) (rec1 ((y3.1, y3.2.1, y3.2.2.1, y3.2.2.2.1, y3.2.2.2.2.1, y3.2.2.2.2.2.1, y3.2.2.2.2.2.2.1, y3.2.2.2.2.2.2.2.1, y3.2.2.2.2.2.2.2.2.1, y3.2.2.2.2.2.2.2.2.2.1, y3.2.2.2.2.2.2.2.2.2.2.1, y3.2.2.2.2.2.2.2.2.2.2.2.1, y3.2.2.2.2.2.2.2.2.2.2.2.2.1, y3.2.2.2.2.2.2.2.2.2.2.2.2.2.1, ()), (y4.1, y4.2.1, y4.2.2.1, y4.2.2.2.1, y4.2.2.2.2.1, y4.2.2.2.2.2.1, y4.2.2.2.2.2.2.1, y4.2.2.2.2.2.2.2.1, y4.2.2.2.2.2.2.2.2.1, y4.2.2.2.2.2.2.2.2.2.1, y4.2.2.2.2.2.2.2.2.2.2.1, y4.2.2.2.2.2.2.2.2.2.2.2.1, y4.2.2.2.2.2.2.2.2.2.2.2.2.1, y4.2.2.2.2.2.2.2.2.2.2.2.2.2.1, ()), IntKind.i64.wrap (y5 + (1 : Int)), ()))) none) none) none) none) (br (y3.1 == y4.1) (br (y3.2.1 == y4.2.1) (bd (grd (lenOk y3.2.2.1) ((sameS y3.2.2.1 y4.2.2.1, ()), (), (), ())) fun (x6 : (Bool × Unit) × Unit × Unit × Unit) => br x6.1.1 (bd (grd (lenOk y3.2.2.2.1) ((sameS y3.2.2.2.1 y4.2.2.2.1, ()), (), (), ())) fun (x7 : (Bool × Unit) × Unit × Unit × Unit) => br x7.1.1 (br (y3.2.2.2.2.1 == y4.2.2.2.2.1) (br (y3.2.2.2.2.2.1 == y4.2.2.2.2.2.1) (br (y3.2.2.2.2.2.2.1 == y4.2.2.2.2.2.2.1) (br (y3.2.2.2.2.2.2.2.1 == y4.2.2.2.2.2.2.2.1) (br (y3.2.2.2.2.2.2.2.2.1 == y4.2.2.2.2.2.2.2.2.1) (br (y3.2.2.2.2.2.2.2.2.2.1 == y4.2.2.2.2.2.2.2.2.2.1) (br (y3.2.2.2.2.2.2.2.2.2.2.1 == y4.2.2.2.2.2.2.2.2.2.2.1) (br (y3.2.2.2.2.2.2.2.2.2.2.2.1 == y4.2.2.2.2.2.2.2.2.2.2.2.1) (some ((y3.2.2.2.2.2.2.2.2.2.2.2.2.1 == y4.2.2.2.2.2.2.2.2.2.2.2.2.1, ()), (), (), ())) (some ((false, ()), (), (), ()))) (some ((false, ()), (), (), ()))) (some ((false, ()), (), (), ()))) (some ((false, ()), (), (), ()))) (some ((false, ()), (), (), ()))) (some ((false, ()), (), (), ()))) (some ((false, ()), (), (), ()))) (some ((false, ()), (), (), ())))
 (some ((false, ()), (), (), ()))) (some ((false, ()), (), (), ()))) (some ((false, ()), (), (), ()))) (some ((false, ()), (), (), ())))
def sameTell_P (K : Nat) (a0 : TellT) (a1 : TellT) : Option ((Bool × Unit) × Unit × Unit × Unit) := br ((↑a0.2.2.2.2.2.2.2.2.2.2.2.2.2.length : Int) != (↑a1.2.2.2.2.2.2.2.2.2.2.2.2.2.length : Int)) (some ((false, ()), (), (), ())) (loopN sameTell_L1 K ((a0.1, a0.2.1, a0.2.2.1, a0.2.2.2.1, a0.2.2.2.2.1, a0.2.2.2.2.2.1, a0.2.2.2.2.2.2.1, a0.2.2.2.2.2.2.2.1, a0.2.2.2.2.2.2.2.2.1, a0.2.2.2.2.2.2.2.2.2.1, a0.2.2.2.2.2.2.2.2.2.2.1, a0.2.2.2.2.2.2.2.2.2.2.2.1, a0.2.2.2.2.2.2.2.2.2.2.2.2.1, a0.2.2.2.2.2.2.2.2.2.2.2.2.2, ()), (a1.1, a1.2.1, a1.2.2.1, a1.2.2.2.1, a1.2.2.2.2.1, a1.2.2.2.2.2.1, a1.2.2.2.2.2.2.1, a1.2.2.2.2.2.2.2.1, a1.2.2.2.2.2.2.2.2.1, a1.2.2.2.2.2.2.2.2.2.1, a1.2.2.2.2.2.2.2.2.2.2.1, a1.2.2.2.2.2.2.2.2.2.2.2.1, a1.2.2.2.2.2.2.2.2.2.2.2.2.1, a1.2.2.2.2.2.2.2.2.2.2.2.2.2, ()), (0 : Int), ()))
theorem sameTell_rn (K : Nat) (a0 : TellT) (a1 : TellT) : runF (cfgW g_sameTell) K f_sameTell sameTell_tm [.val tTell, .val tTell] [.val .bool] (a0, a1, ()) = sameTell_P K a0 a1 := by kernel_rfl
end
end Go.BB
