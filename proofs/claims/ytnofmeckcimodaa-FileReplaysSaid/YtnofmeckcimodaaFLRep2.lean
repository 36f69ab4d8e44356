/- A symbolic machine for the model's code, and what it shows of this seat's functions. No conditions. -/
import Derived.Test.YtnofmeckcimodaaFGfdv
import Derived.Test.YtnofmeckcimodaaFGfgd
import Derived.Test.YtnofmeckcimodaaFVfdo2
import Derived.Test.YtnofmeckcimodaaFVask2
import Derived.Test.YtnofmeckcimodaaFVfgb
import Derived.Test.YtnofmeckcimodaaFGfgb
import Derived.Test.YtnofmeckcimodaaFVfea
import Derived.Test.YtnofmeckcimodaaFLFile
import Derived.Test.YtnofmeckcimodaaFLFile2
set_option linter.unusedSimpArgs false
set_option linter.unusedVariables false
namespace Go.BB
open Go Go.Proofs
set_option maxRecDepth 100000
theorem v_cellsV : Valid Try.prog n_cellsV c_cellsV := by
 refine valid_fn mixed hf_cellsV (by kernel_rfl) rfl (ts := tmpsOf f_cellsV.results.toList) (by kernel_rfl) (cfg := cfgW g_cellsV) tt_ok (Γok_cons v_cell (Γok_cons v_rput Γok_nil)) cellsV_tm c_cellsV (by kernel_rfl) (fun _ _ _ _ => ⟨⟩) ?_
 rintro ⟨(l : List Int), ⟨⟩⟩ r u h
 refine ⟨22, (cellsV_rn _ _).trans (Eq.trans ?_ h)⟩
 show cellsV_P 22 l = some ((cellsS l, ()), (), ())
 unfold cellsV_P
 have hlen : (l.take 20).length ≤ 20 ∧ (l.take 20).length ≤ l.length := by rw [List.length_take]; omega
 refine loopN_for (step := cellsV_L1) (l.take 20).length (fun i => (l, cellsR (l.take i), (i : Int), ())) (fun i hi rec => ?_) (fun rec => ?_) _ (by omega)
 ·simp only [cellsV_L1, Int.toNat_natCast, mk_eta]
  have h20 : i < 20 ∧ i < l.length := by rw [List.length_take] at hi; omega
  have hb : bufS (cellsR (l.take i)) = true := foldl_buf _ _ rfl
  have hn : (cellsR (l.take i)).length ≤ 20 := by
   have := foldl_len (l.take i) []
   unfold cellsR
   rw [List.length_take] at this
   simp at this
   omega
  rw [br_dt (by omega), br_dt (by omega), br_dt (by omega), br_dt (by omega), bd_grd (by rw [hb]; simp [lenOk]; omega), wrapI (n := (i : Int) + 1) (by omega) (by omega)]
  simp only
  congr 1
  refine Prod.ext rfl (Prod.ext ?_ rfl)
  show putK _ _ = cellsR _
  rw [take_snoc l i 0 h20.2]
  unfold cellsR
  rw [List.foldl_append, putK_eq]
  rfl
 ·simp only [cellsV_L1]
  rw [cellsS_eq]
  by_cases h : l.length ≤ 20
  ·have e : l.take 20 = l := List.take_of_length_le h
   rw [e, br_df (by omega), List.take_length]
  ·have e : (l.take 20).length = 20 := by rw [List.length_take]; omega
   rw [e, br_dt (by omega), br_df (by omega)]
abbrev DeedsRes := Option ((List Deed × List Deed × Unit) × Unit × Unit × Unit × Unit)
abbrev DU := Bool × Int × List StepT × Unit × Unit
abbrev DS1 := List Int × List Int × Bool × List Deed × List Deed × (List Cel × Unit) × Int × Unit
abbrev DS2 := List Int × List Int × Bool × List Deed × List Deed × (List Cel × Unit) × Int × DU × DU × Int × Unit
theorem deedsX_L2_eq : deedsX_L2 = deedsX_L1 := by kernel_rfl
def dLay (rec1 : DS1 → DeedsRes) (as1 bs : List Int) (right : Bool) (l m : List Deed) (x : List Cel) (i : Int) (d e : Deed) : DeedsRes :=
 br (decide ((l.length + [d].length) * 64 ≤ LIM)) (br (decide (l.length + [d].length ≤ LIM)) (br (decide ((m.length + [e].length) * 64 ≤ LIM)) (br (decide (m.length + [e].length ≤ LIM))
  (rec1 (as1, bs, right, cat l [d], cat m [e], (x, ()), IntKind.i64.wrap (i + 1), ())) none) none) none) none
def fldI (bs : List Int) (i : Int) : List Cel := cellsS (List.take ((minI (IntKind.i64.wrap (i + 2)) (↑bs.length : Int)).toNat - (minI i (↑bs.length : Int)).toNat) (List.drop (minI i (↑bs.length : Int)).toNat bs))
def dTail (rec1 : DS1 → DeedsRes) (as1 bs : List Int) (right : Bool) (l m : List Deed) (x : List Cel) (i : Int) (w : Bool) (s : Int) (P : List StepT) (w' : Bool) (s' : Int) (P' : List StepT) : DeedsRes :=
 br (decide (0 ≤ i)) (br (decide (i < (↑as1.length : Int))) (bd (grd (true && (true && decide ((4 : Int) < 4611686018427387904))) ((digitS (as1.getD i.toNat 0) 48 4, ()), (), (), (), ())) fun (x30 : (Int × Unit) × Unit × Unit × Unit × Unit) =>
  br (x30.1.1 == 0) (br (decide (0 ≤ minI i (↑bs.length : Int))) (br (decide (minI i (↑bs.length : Int) ≤ minI (IntKind.i64.wrap (i + 2)) (↑bs.length : Int))) (br (decide (minI (IntKind.i64.wrap (i + 2)) (↑bs.length : Int) ≤ (↑bs.length : Int)))
   (bd (grd (decide (x.length ≤ 500000) && (bufS x && decide ((fldI bs i).length ≤ 100000))) ((), (setR x (fldI bs i), ()), (), ())) fun (x31 : Unit × (List Cel × Unit) × Unit × Unit) =>
    dLay rec1 as1 bs right l m x31.2.1.1 i (w, s, P, fldI bs i) (w', s', P', fldI bs i)) none) none) none)
   (dLay rec1 as1 bs right l m x i (w, s, P, []) (w', s', P', []))) none) none
def dStep (rec14 : DS2 → DeedsRes) (as1 bs : List Int) (right : Bool) (l m : List Deed) (x : List Cel) (i : Int) (w : Bool) (s : Int) (P : List StepT) (w' : Bool) (s' : Int) (P' : List StepT) (k : Int) (st : StepT) : DeedsRes :=
 br (decide ((P.length + [st].length) * 256 ≤ LIM)) (br (decide (P.length + [st].length ≤ LIM)) (br (decide ((P'.length + [st].length) * 256 ≤ LIM)) (br (decide (P'.length + [st].length ≤ LIM))
  (rec14 (as1, bs, right, l, m, (x, ()), i, (w, s, cat P [st], (), ()), (w', s', cat P' [st], (), ()), IntKind.i64.wrap (k + 1), ())) none) none) none) none
theorem deedsX_L1_eq (rec1 : DS1 → DeedsRes) (rec14 : DS2 → DeedsRes) (as1 bs : List Int) (right : Bool) (l m : List Deed) (x : List Cel) (i : Int) (w : Bool) (s : Int) (P : List StepT) (w' : Bool) (s' : Int) (P' : List StepT) (k : Int) :
  deedsX_L1 rec1 rec14 (as1, bs, right, l, m, (x, ()), i, (w, s, P, (), ()), (w', s', P', (), ()), k, ()) =
  br (decide (0 ≤ i)) (br (decide (i < (↑as1.length : Int))) (bd (grd (true && (true && decide ((4 : Int) < 4611686018427387904))) ((digitS (as1.getD i.toNat 0) 12 4, ()), (), (), (), ())) fun (x26 : (Int × Unit) × Unit × Unit × Unit × Unit) =>
   br (decide (k < x26.1.1)) (bd (grd (decide (0 < IntKind.i64.wrap (1 + k)) && (decide ((0 : Int) < 1099511627776) && decide ((1099511627776 : Int) < 4611686018427387904))) ((digitS (atS bs (IntKind.i64.wrap (i + k))) (IntKind.i64.wrap (1 + k)) 1099511627776, ()), (), (), (), ())) fun (x27 : (Int × Unit) × Unit × Unit × Unit × Unit) =>
    bd (grd (decide (x.length ≤ 400000) && (bufS x && (askLen (askS x27.1.1 (atS bs (IntKind.i64.wrap (i + k)))) && (decide ((aBits (askS x27.1.1 (atS bs (IntKind.i64.wrap (i + k))))).length ≤ 100000) && decide ((aWords (askS x27.1.1 (atS bs (IntKind.i64.wrap (i + k))))).length ≤ 100000))))) (((doR x (askS x27.1.1 (atS bs (IntKind.i64.wrap (i + k))))).1.1, (doR x (askS x27.1.1 (atS bs (IntKind.i64.wrap (i + k))))).1.2, ()), ((doR x (askS x27.1.1 (atS bs (IntKind.i64.wrap (i + k))))).2, ()), (), ())) fun (x28 : (TellT × Bool × Unit) × (List Cel × Unit) × Unit × Unit) =>
     br (!x28.1.2.1)
      (bd (grd (decide (x28.2.1.1.length ≤ 400000) && (bufS x28.2.1.1 && (askLen askD && (decide (0 ≤ 100000) && decide (0 ≤ 100000))))) (((doR x28.2.1.1 askD).1.1, (doR x28.2.1.1 askD).1.2, ()), ((doR x28.2.1.1 askD).2, ()), (), ())) fun (x29 : (TellT × Bool × Unit) × (List Cel × Unit) × Unit × Unit) =>
       dStep rec14 as1 bs right l m x29.2.1.1 i w s P w' s' P' k (askD, x29.1.1))
      (dStep rec14 as1 bs right l m x28.2.1.1 i w s P w' s' P' k (askS x27.1.1 (atS bs (IntKind.i64.wrap (i + k))), x28.1.1)))
    (dTail rec1 as1 bs right l m x i w s P w' s' P')) none) none := by kernel_rfl
theorem dStep_eq (rec14 : DS2 → DeedsRes) (as1 bs : List Int) (right : Bool) (l m : List Deed) (x : List Cel) (i : Int) (w : Bool) (s : Int) (P : List StepT) (k : Nat) (st : StepT) (hP : P.length ≤ 1000) (hk : k ≤ 1000) :
  dStep rec14 as1 bs right l m x i w s P w s P (k : Int) st = rec14 (as1, bs, right, l, m, (x, ()), i, (w, s, P ++ [st], (), ()), (w, s, P ++ [st], (), ()), ((k + 1 : Nat) : Int), ()) := by
 unfold dStep
 simp only [List.length_singleton]
 rw [br_dt (by unfold LIM; omega), br_dt (by unfold LIM; omega), br_dt (by unfold LIM; omega), br_dt (by unfold LIM; omega), wrapI (by omega) (by omega)]
 rfl
theorem dLay_eq (rec1 : DS1 → DeedsRes) (as1 bs : List Int) (right : Bool) (l : List Deed) (x : List Cel) (i : Nat) (d : Deed) (hl : l.length ≤ 1000) (hi : i ≤ 1000) :
  dLay rec1 as1 bs right l l x (i : Int) d d = rec1 (as1, bs, right, l ++ [d], l ++ [d], (x, ()), ((i + 1 : Nat) : Int), ()) := by
 unfold dLay
 simp only [List.length_singleton]
 rw [br_dt (by unfold LIM; omega), br_dt (by unfold LIM; omega), br_dt (by unfold LIM; omega), br_dt (by unfold LIM; omega), wrapI (by omega) (by omega)]
 rfl
theorem fldI_eq (bs : List Int) (i : Nat) (hi : i ≤ 1000) : fldI bs (i : Int) = cellsS ((bs.drop (min i bs.length)).take (min (i + 2) bs.length - min i bs.length)) := by
 unfold fldI
 rw [wrapI (by omega) (by omega), minI_eq, minI_eq]
 congr 2
 ·omega
 ·congr 1; omega
theorem dTail_eq (rec1 : DS1 → DeedsRes) (as1 bs : List Int) (right : Bool) (l : List Deed) (x : List Cel) (i : Nat) (w : Bool) (s : Int) (P : List StepT) (hi : i < as1.length) (hi2 : i ≤ 1000) (hl : l.length ≤ 1000) (hx : x.length ≤ 300000) (hb : bufS x = true) :
  dTail rec1 as1 bs right l l x (i : Int) w s P w s P = rec1 (as1, bs, right, l ++ [(w, s, P, fieldD as1 bs i)], l ++ [(w, s, P, fieldD as1 bs i)], (setR x (fieldD as1 bs i), ()), ((i + 1 : Nat) : Int), ()) := by
 unfold dTail
 have e1 : ((i : Nat) : Int).toNat = i := by omega
 rw [br_dt (by omega), br_dt (by omega), bd_grd (by decide), e1]
 unfold fieldD
 simp only
 by_cases h : digitS (as1.getD i 0) 48 4 = 0
 ·rw [if_pos h, br_t (by rw [h]; rfl)]
  rw [br_dt (by rw [minI_eq]; omega), br_dt (by rw [wrapI (by omega) (by omega), minI_eq, minI_eq]; omega), br_dt (by rw [wrapI (by omega) (by omega), minI_eq]; omega)]
  have hc := cellsS_len ((bs.drop (min i bs.length)).take (min (i + 2) bs.length - min i bs.length))
  rw [← fldI_eq bs i hi2] at hc ⊢
  rw [bd_grd (and_t (decide_eq_true (by omega)) (and_t hb (decide_eq_true (by omega)))), dLay_eq _ _ _ _ _ _ _ _ hl hi2]
 ·rw [if_neg h, br_f (by simpa using h), dLay_eq _ _ _ _ _ _ _ _ hl hi2]
  rfl
theorem deeds_in (K : Nat) (hK : 4 < K) (rec1 : DS1 → DeedsRes) (as1 bs : List Int) (right : Bool) (l : List Deed) (x : List Cel) (i : Nat) (w : Bool) (s : Int) (hi : i < as1.length) (hi2 : i ≤ 1000) (hl : l.length ≤ 1000) (hx : x.length ≤ 200000) (hb : bufS x = true) :
  loopN (deedsX_L1 rec1) K (as1, bs, right, l, l, (x, ()), (i : Int), (w, s, [], (), ()), (w, s, [], (), ()), 0, ()) =
   rec1 (as1, bs, right, l ++ [(w, s, (stepsD bs i x (digitS (as1.getD i 0) 12 4).toNat).1, fieldD as1 bs i)], l ++ [(w, s, (stepsD bs i x (digitS (as1.getD i 0) 12 4).toNat).1, fieldD as1 bs i)],
    (setR (stepsD bs i x (digitS (as1.getD i 0) 12 4).toNat).2 (fieldD as1 bs i), ()), ((i + 1 : Nat) : Int), ()) := by
 have hn := digitS_range (as1.getD i 0) 12 (n := 4) (by decide)
 have e1 : ((i : Nat) : Int).toNat = i := by omega
 refine loopN_for (step := deedsX_L1 rec1) (digitS (as1.getD i 0) 12 4).toNat (fun k => (as1, bs, right, l, l, ((stepsD bs i x k).2, ()), (i : Int), (w, s, (stepsD bs i x k).1, (), ()), (w, s, (stepsD bs i x k).1, (), ()), (k : Int), ())) (fun k hk rec14 => ?_) (fun rec14 => ?_) K (by omega)
 ·obtain ⟨g1, g2, g3, g4⟩ := stepsD_ok bs i hb k
  rw [deedsX_L1_eq, br_dt (by omega), br_dt (by omega), bd_grd (by decide), e1]
  simp only
  rw [br_dt (by omega), wrapI (n := 1 + (k : Int)) (by omega) (by omega), wrapI (n := (i : Int) + (k : Int)) (by omega) (by omega), bd_grd (and_t (decide_eq_true (by omega)) (by decide))]
  simp only
  have hl2 := askS_len (digitS (atS bs ((i : Int) + (k : Int))) (1 + (k : Int)) 1099511627776) (atS bs ((i : Int) + (k : Int)))
  have ho := askS_ok (digitS (atS bs ((i : Int) + (k : Int))) (1 + (k : Int)) 1099511627776) (atS bs ((i : Int) + (k : Int)))
  have es : stepsD bs i x (k + 1) = ((stepsD bs i x k).1 ++ [(stepD bs i k (stepsD bs i x k).2).1], (stepD bs i k (stepsD bs i x k).2).2) := rfl
  rw [es]
  unfold stepD
  simp only
  generalize askS (digitS (atS bs ((i : Int) + (k : Int))) (1 + (k : Int)) 1099511627776) (atS bs ((i : Int) + (k : Int))) = a at hl2 ho ⊢
  obtain ⟨q1, q2⟩ := doR_reg g3 a
  rw [bd_grd (and_t (decide_eq_true (by omega)) (and_t g3 (and_t ho (and_t (decide_eq_true (by omega)) (decide_eq_true (by omega))))))]
  simp only
  cases hd : (doR (stepsD bs i x k).2 a).1.2 with
  | false =>
   rw [br_t (by rfl), bd_grd (and_t (decide_eq_true (by omega)) (and_t q1 (by decide)))]
   simp only
   rw [dStep_eq _ _ _ _ _ _ _ _ _ _ _ _ _ (by omega) (by omega)]
   rfl
  | true =>
   rw [br_f (by rfl), dStep_eq _ _ _ _ _ _ _ _ _ _ _ _ _ (by omega) (by omega)]
   rfl
 ·obtain ⟨g1, g2, g3, g4⟩ := stepsD_ok bs i hb (digitS (as1.getD i 0) 12 4).toNat
  rw [deedsX_L1_eq, br_dt (by omega), br_dt (by omega), bd_grd (by decide), e1]
  simp only
  rw [br_df (by omega), dTail_eq _ _ _ _ _ _ _ _ _ _ hi hi2 hl (by omega) g3]
theorem v_deedsX : Valid Try.prog n_deedsX c_deedsX := by
 refine valid_fnc mixed hf_deedsX (by kernel_rfl) rfl (cfg := cfgD [58, 59] [] g_deedsX) tt_ok (Γok_cons v_within (Γok_cons v_digit (Γok_cons v_ati (Γok_cons v_ask (Γok_cons v_rfdo (Γok_cons v_cellsV (Γok_cons v_rfset Γok_nil))))))) deedsX_tm c_deedsX (by kernel_rfl) (fun _ _ _ _ => ⟨⟩) ?_
 rintro ⟨(as1 : List Int), (bs : List Int), (right : Bool), ⟨⟩⟩ r u h
 obtain ⟨h1, h2⟩ := grd_some h
 simp only [Bool.and_eq_true, decide_eq_true_eq] at h1
 obtain ⟨ha, hb⟩ := h1
 refine ⟨102, (deedsX_rn _ _ _ _).trans (Eq.trans ?_ (congrArg some h2))⟩
 show loopN (deedsX_L3 102) 102 (as1, bs, right, (deedsD as1 bs right 0).1, (deedsD as1 bs right 0).1, ((deedsD as1 bs right 0).2, ()), ((0 : Nat) : Int), ()) = some ((deedsS as1 bs right, deedsS as1 bs right, ()), (), (), (), ())
 refine loopN_for (step := deedsX_L3 102) (min as1.length 20) (fun i => (as1, bs, right, (deedsD as1 bs right i).1, (deedsD as1 bs right i).1, ((deedsD as1 bs right i).2, ()), (i : Int), ())) (fun i hi rec => ?_) (fun rec => ?_) 102 (by omega)
 ·obtain ⟨g1, g2, g3, g4⟩ := deedsD_ok as1 bs right i
  have e1 : ((i : Nat) : Int).toNat = i := by omega
  simp only [deedsX_L3, deedsX_L2_eq]
  have e6 := Int.emod_nonneg (as1.getD i 0) (show (6 : Int) ≠ 0 by decide)
  have e7 := Int.emod_lt_of_pos (as1.getD i 0) (show (0 : Int) < 6 by decide)
  rw [br_dt (by omega), br_dt (by omega), br_dt (by omega), br_dt (by omega), bd_grd (by decide), br_dt (by omega), br_dt (by omega), bd_grd (by decide), br_dt (by omega), br_dt (by omega), bd_grd (by decide), br_dt (by omega), br_dt (by omega), bd_grd (by decide)]
  simp only [e1]
  cases right with
  | true =>
   rw [brtz, wrapI (n := (i : Int) + 1) (by omega) (by omega), wrapU (n := (i : Int) + 1) (by omega) (by omega), deeds_in 102 (by omega) rec as1 bs true _ _ i true _ (by omega) (by omega) (by omega) (by omega) g3]
   rfl
  | false =>
   rw [brfz, wrapU (n := as1.getD i 0 % 6) (by omega) (by omega), deeds_in 102 (by omega) rec as1 bs false _ _ i _ _ (by omega) (by omega) (by omega) (by omega) g3]
   rfl
 ·simp only [deedsX_L3]
  unfold deedsS
  by_cases hl : as1.length ≤ 20
  ·rw [br_df (by omega)]
  ·rw [br_dt (by omega), br_df (by omega)]
end Go.BB
set_option linter.unusedSimpArgs false
set_option linter.unusedVariables false
namespace Go.BB
open Go
theorem getF_mset (v : Int) (k k' : Key) : ∀ m : Regs, getF (mset eqK m k v) k' = if k' = k then v else getF m k'
 | [] => by
  unfold getF mgetD mset
  by_cases h : k' = k
  ·subst h
   rw [if_pos rfl]
   have : eqK k' k' = true := eqK_iff.2 rfl
   simp [mget, this]
  ·rw [if_neg h]
   have : eqK k k' = false := eqK_false.2 (fun e => h e.symm)
   simp [mget, this]
 | p :: m => by
  have ih := getF_mset v k k' m
  unfold getF mgetD at ih ⊢
  unfold mset
  cases h1 : eqK p.1 k with
  | true =>
   have e := eqK_iff.1 h1
   simp only [mget]
   by_cases h : k' = k
   ·subst h
    rw [if_pos rfl, h1]
   ·rw [if_neg h]
    have : eqK p.1 k' = false := eqK_false.2 (fun e' => h (by rw [← e', e]))
    simp only [this]
  | false =>
   simp only [mget]
   cases h2 : eqK p.1 k' with
   | true =>
    have e := eqK_iff.1 h2
    have hne := eqK_false.1 h1
    rw [if_neg (fun h => hne (by rw [e, h]))]
   | false => exact ih
theorem getK_put {l : List Cel} (hb : bufS l = true) (c : Cel) (k : Key) : (getK (putK l c) k).1 = if k = c.1 then c.2 else (getK l k).1 := by
 rw [putK_eq, getK_eq, getR_put c k hb, getK_eq]
 by_cases h : k = c.1
 ·rw [if_pos h, if_pos h]
 ·rw [if_neg h, if_neg h]
structure SameR (m : Regs) (l : List Cel) : Prop where
 buf : bufS l = true
 get : ∀ k, getF m k = (getK l k).1
 out : ∀ k, keyR k = false → getF m k = 0
theorem sameR_nil : SameR [] [] := ⟨rfl, fun _ => rfl, fun _ _ => rfl⟩
theorem sameR_set : ∀ (cs : List Cel) {m : Regs} {l : List Cel}, SameR m l → SameR (setF m cs) (setR l cs)
 | [], _, _, h => h
 | c :: cs, m, l, h => by
  have e1 : setF m (c :: cs) = setF (if keyR c.1 then mset eqK m c.1 c.2 else m) cs := rfl
  have e2 : setR l (c :: cs) = setR (if keyR c.1 then putK l c else l) cs := rfl
  rw [e1, e2]
  cases hk : keyR c.1 with
  | false => exact sameR_set cs h
  | true =>
   rw [if_pos rfl, if_pos rfl]
   refine sameR_set cs ⟨by rw [putK_eq]; exact bufS_put c h.buf, fun k => ?_, fun k hk' => ?_⟩
   ·rw [getF_mset, getK_put h.buf, h.get]
   ·rw [getF_mset, if_neg (fun e => by rw [e, hk] at hk'; cases hk')]
    exact h.out k hk'
theorem cellsA_was {a : AskT} (h : aFn a ≠ 22) (x y : Int) : cellsA a x = cellsA a y := by
 unfold cellsA
 rw [if_neg h, if_neg h]
theorem spansA_none {a : AskT} (h : ((spansA a).1 ++ (spansA a).2).length = 0) : askOk a = false ∨ aFn a = 43 := by
 cases hk : askOk a with
 | false => exact .inl rfl
 | true =>
  right
  obtain ⟨q1, _⟩ := askOk_at hk
  obtain ⟨f, at1, n, v, an, o, bs, ws, ra, rn, c, ob⟩ := a
  unfold spansA at h
  rw [if_neg (by rw [hk]; decide)] at h
  dsimp only [aFn] at h q1 ⊢
  rcases (known_iff f).1 q1 with rfl | rfl | rfl | rfl | rfl | rfl | rfl | rfl | rfl | rfl | rfl
  all_goals first
   | rfl
   | (simp at h)
theorem spansA_some {a : AskT} (h : askOk a = false ∨ aFn a = 43) : spansA a = ([], []) := by
 unfold spansA
 rcases h with h | h
 ·rw [if_pos h]
 ·rw [h]
  split
  ·rfl
  ·simp
theorem beyond_app (x y : List Spn) : beyond (x ++ y) = (beyond x || beyond y) := by unfold beyond; rw [List.any_append]
theorem doF_doR {m : Regs} {l : List Cel} (h : SameR m l) (a : AskT) : (doF m a).1 = (doR l a).1 ∧ SameR (doF m a).2 (doR l a).2 := by
 unfold doF doR
 by_cases hn : ((spansA a).1 ++ (spansA a).2).length = 0
 ·rw [if_pos (.inl hn), if_pos ((spansA_none hn).elim .inl (fun h => .inr (.inl h)))]
  exact ⟨rfl, h⟩
 ·have hno : ¬ (askOk a = false ∨ aFn a = 43) := fun hc => hn (by rw [spansA_some hc]; rfl)
  cases hb : beyond ((spansA a).1 ++ (spansA a).2) with
  | true =>
   rw [beyond_app, Bool.or_eq_true] at hb
   rw [if_pos (.inr rfl), if_pos (hb.elim (fun x => .inr (.inr (.inl x))) fun x => .inr (.inr (.inr x)))]
   exact ⟨rfl, h⟩
  | false =>
   rw [beyond_app, Bool.or_eq_false_iff] at hb
   rw [if_neg (by rintro (x | x); exact hn x; cases x), if_neg (by
    rintro (x | x | x | x)
    ·exact hno (.inl x)
    ·exact hno (.inr x)
    ·exact absurd x (by rw [show ((spansA a).1.any fun s => !spanR s) = beyond (spansA a).1 from rfl, hb.1]; decide)
    ·exact absurd x (by rw [show ((spansA a).2.any fun s => !spanR s) = beyond (spansA a).2 from rfl, hb.2]; decide))]
   have hc : cellsA a (getF m (2, aAt a)) = cellsA a (getK l ((tabS (aFn a)).1, aAt a)).1 := by
    by_cases h22 : aFn a = 22
    ·rw [h22, h.get]; rfl
    ·exact cellsA_was h22 _ _
   rw [hc]
   have hs := sameR_set (cellsA a (getK l ((tabS (aFn a)).1, aAt a)).1) h
   generalize setF m (cellsA a (getK l ((tabS (aFn a)).1, aAt a)).1) = m' at hs ⊢
   generalize setR l (cellsA a (getK l ((tabS (aFn a)).1, aAt a)).1) = l' at hs ⊢
   have hv : ∀ s, valsF m' s = valsR l' s := fun s => List.map_congr_left fun i _ => hs.get _
   cases (spansA a).1 with
   | nil => exact ⟨rfl, hs⟩
   | cons s t =>
    refine ⟨?_, hs⟩
    show (shownT (aFn a) (valsF m' s), true) = (shownA a (valsR l' s), true)
    rw [hv]
    rfl
theorem isW_iff' (n : Int) : isW n = true ↔ 0 ≤ n ∧ n ≤ 65535 := by simp [isW]
theorem askS_W (k v : Int) : askW (askS k v) = true := by
 have d5 := digitS_range v 65536 (n := 65536) (by decide)
 have e2 := Int.emod_nonneg v (show (2 : Int) ≠ 0 by decide)
 have e3 := Int.emod_lt_of_pos v (show (0 : Int) < 2 by decide)
 have e4 := Int.emod_nonneg v (show (60000 : Int) ≠ 0 by decide)
 have e5 := Int.emod_lt_of_pos v (show (0 : Int) < 60000 by decide)
 have e6 := Int.emod_nonneg v (show (65536 : Int) ≠ 0 by decide)
 have e7 := Int.emod_lt_of_pos v (show (0 : Int) < 65536 by decide)
 have w0 : isW 0 = true := rfl
 have wv2 : isW (v % 2) = true := (isW_iff' _).2 ⟨by omega, by omega⟩
 have wv6 : isW (v % 60000) = true := (isW_iff' _).2 ⟨by omega, by omega⟩
 have wv7 : isW (v % 65536) = true := (isW_iff' _).2 ⟨by omega, by omega⟩
 have wd : isW (digitS v 65536 65536) = true := (isW_iff' _).2 ⟨by omega, by omega⟩
 unfold askS
 generalize (if digitS k 3840 12 = 0 then digitS k 46080 65536 else digitS k 16 40) = at1
 simp only
 repeat' split
 all_goals simp only [ask0, askW, aVal, aAnd, aOr, w0, wv2, wv6, wv7, wd, Bool.and_self]
end Go.BB
set_option linter.unusedSimpArgs false
set_option linter.unusedVariables false
namespace Go.BB
open Go Go.Proofs
set_option maxRecDepth 100000
theorem playF_R : ∀ (l : List StepT) {m : Regs} {r : List Cel}, SameR m r → (playF m l).1 = (playR r l).1 ∧ SameR (playF m l).2 (playR r l).2
 | [], _, _, h => ⟨rfl, h⟩
 | s :: l, m, r, h => by
  obtain ⟨h1, h2⟩ := doF_doR h s.1
  unfold playF playR
  rw [h1]
  by_cases hc : ((doR r s.1).1.2 && sameTellB (doR r s.1).1.1 s.2) = true
  ·rw [if_pos hc, if_pos hc]; exact playF_R l h2
  ·rw [if_neg hc, if_neg hc]; exact ⟨rfl, h2⟩
theorem replaysF_R : ∀ (l : List Deed) {m : Regs} {r : List Cel}, SameR m r → replaysF m l = replaysR r l
 | [], _, _, _ => rfl
 | d :: l, m, r, h => by
  obtain ⟨h1, h2⟩ := playF_R d.2.2.1 h
  unfold replaysF replaysR replayF replayR
  rw [h1]
  by_cases hc : (playR r d.2.2.1).1 = true
  ·rw [if_pos hc, if_pos hc]
   simp only [if_true]
   rw [replaysF_R l (sameR_set d.2.2.2 h2)]
  ·rw [if_neg hc, if_neg hc]
   rfl
theorem replays_eq (l : List Deed) : replaysF [] l = replaysR [] l := replaysF_R l sameR_nil
theorem askD_W : askW askD = true := rfl
theorem stepD_W (bs : List Int) (i k : Nat) (m : List Cel) : stepW (stepD bs i k m).1 = true := by
 have hl := askS_len (digitS (atS bs ((i : Int) + (k : Int))) (1 + (k : Int)) 1099511627776) (atS bs ((i : Int) + (k : Int)))
 have hw := askS_W (digitS (atS bs ((i : Int) + (k : Int))) (1 + (k : Int)) 1099511627776) (atS bs ((i : Int) + (k : Int)))
 unfold stepD
 simp only
 generalize askS (digitS (atS bs ((i : Int) + (k : Int))) (1 + (k : Int)) 1099511627776) (atS bs ((i : Int) + (k : Int))) = a at hl hw ⊢
 split
 ·exact stepW_iff.2 ⟨hw, hl.1, hl.2, doR_tell m a⟩
 ·exact stepW_iff.2 ⟨askD_W, (show (aBits askD).length ≤ 24 by decide), (show (aWords askD).length ≤ 24 by decide), doR_tell _ _⟩
theorem stepsD_W (bs : List Int) (i : Nat) (m : List Cel) : ∀ k, ∀ s ∈ (stepsD bs i m k).1, stepW s = true
 | 0, s, h => nomatch h
 | k + 1, s, h => by
  unfold stepsD at h
  simp only at h
  rcases List.mem_append.1 h with h | h
  ·exact stepsD_W bs i m k s h
  ·rw [List.mem_singleton.1 h]; exact stepD_W _ _ _ _
theorem deedD_W (as1 bs : List Int) (right : Bool) (i : Nat) {m : List Cel} (hm : bufS m = true) : deedW (deedD as1 bs right i m).1 = true := by
 have hn := digitS_range (as1.getD i 0) 12 (n := 4) (by decide)
 have hk := (deedD_ok as1 bs right i hm).1
 refine deedW_iff.2 ⟨?_, fieldD_len _ _ _, stepsD_W bs i m _, hk⟩
 show (stepsD bs i m (digitS (as1.getD i 0) 12 4).toNat).1.length ≤ 3
 rw [(stepsD_ok bs i hm _).1]
 omega
theorem deedsD_W (as1 bs : List Int) (right : Bool) : ∀ i, ∀ d ∈ (deedsD as1 bs right i).1, deedW d = true
 | 0, d, h => nomatch h
 | i + 1, d, h => by
  obtain ⟨_, _, g3, _⟩ := deedsD_ok as1 bs right i
  unfold deedsD at h
  simp only at h
  rcases List.mem_append.1 h with h | h
  ·exact deedsD_W as1 bs right i d h
  ·rw [List.mem_singleton.1 h]; exact deedD_W as1 bs right i g3
theorem deedsS_W (as1 bs : List Int) (right : Bool) : deedsW (deedsS as1 bs right) = true :=
 deedsW_iff.2 ⟨by rw [(deedsS_ok as1 bs right).1]; omega, deedsD_W as1 bs right _⟩
theorem sortD_W {l : List Deed} (h : deedsW l = true) : deedsW (sortD l) = true := by
 obtain ⟨h1, h2⟩ := deedsW_iff.1 h
 exact deedsW_iff.2 ⟨by rw [sortD_len]; exact h1, fun d hd => h2 d ((perm_sortD l).mem_iff.1 hd)⟩
theorem doR_no {m : List Cel} {a : AskT} (h : (doR m a).1.2 = false) : (doR m a).2 = m := by
 unfold doR at h ⊢
 split at h
 ·rename_i hc
  rw [if_pos hc]
 ·rename_i hc
  split at h <;> cases h
theorem askD_does (m : List Cel) : (doR m askD).1.2 = true := by
 unfold doR
 have h1 : ¬ (askOk askD = false ∨ aFn askD = 43 ∨ ((spansA askD).1.any fun s => !spanR s) = true ∨ ((spansA askD).2.any fun s => !spanR s) = true) := by decide
 rw [if_neg h1]
 split <;> rfl
theorem playR_app : ∀ (l l2 : List StepT) (m : List Cel), (playR m l).1 = true → playR m (l ++ l2) = playR (playR m l).2 l2
 | [], l2, m, h => rfl
 | s :: l, l2, m, h => by
  rw [List.cons_append]
  unfold playR at h
  by_cases hc : ((doR m s.1).1.2 && sameTellB (doR m s.1).1.1 s.2) = true
  ·rw [if_pos hc] at h
   have e1 : playR m (s :: (l ++ l2)) = playR (doR m s.1).2 (l ++ l2) := by
    show (if _ then _ else _) = _
    rw [if_pos hc]
   have e2 : playR m (s :: l) = playR (doR m s.1).2 l := by
    show (if _ then _ else _) = _
    rw [if_pos hc]
   rw [e1, e2]
   exact playR_app l l2 _ h
  ·rw [if_neg hc] at h; cases h
theorem stepD_play (bs : List Int) (i k : Nat) (m : List Cel) : playR m [(stepD bs i k m).1] = (true, (stepD bs i k m).2) := by
 unfold stepD
 simp only
 generalize askS (digitS (atS bs ((i : Int) + (k : Int))) (1 + (k : Int)) 1099511627776) (atS bs ((i : Int) + (k : Int))) = a
 have one : ∀ (b : AskT), (doR m b).1.2 = true → playR m [(b, (doR m b).1.1)] = (true, (doR m b).2) := by
  intro b hb
  show (if _ then _ else _) = _
  rw [if_pos (by rw [hb]; exact decide_eq_true rfl)]
  rfl
 by_cases h : (doR m a).1.2 = true
 ·rw [if_pos h]
  exact one a h
 ·rw [if_neg h, doR_no (by simpa using h)]
  exact one askD (askD_does m)
theorem stepsD_play (bs : List Int) (i : Nat) (m : List Cel) : ∀ k, playR m (stepsD bs i m k).1 = (true, (stepsD bs i m k).2)
 | 0 => rfl
 | k + 1 => by
  have ih := stepsD_play bs i m k
  unfold stepsD
  simp only
  rw [playR_app _ _ _ (by rw [ih]), ih]
  exact stepD_play bs i k _
theorem deedD_play (as1 bs : List Int) (right : Bool) (i : Nat) (m : List Cel) : replayR m (deedD as1 bs right i m).1 = (true, (deedD as1 bs right i m).2) := by
 unfold replayR deedD
 simp only
 rw [stepsD_play]
 rfl
theorem replaysR_app : ∀ (l l2 : List Deed) (m m' : List Cel), replaysR m l = l.length → (l.foldl (fun m d => (replayR m d).2) m) = m' → replaysR m (l ++ l2) = l.length + replaysR m' l2
 | [], l2, m, m', _, e => by
  simp only [List.foldl_nil] at e
  subst e
  simp
 | d :: l, l2, m, m', h, e => by
  unfold replaysR at h
  by_cases hc : (replayR m d).1 = true
  ·rw [if_pos hc] at h
   have h' : replaysR (replayR m d).2 l = l.length := by simpa using h
   rw [List.foldl_cons] at e
   have := replaysR_app l l2 _ m' h' e
   rw [List.cons_append]
   show (if _ then _ else _) = _
   rw [if_pos hc, this, List.length_cons]
   omega
  ·rw [if_neg hc] at h; simp at h
theorem deedsD_play (as1 bs : List Int) (right : Bool) : ∀ i, replaysR [] (deedsD as1 bs right i).1 = i ∧ (deedsD as1 bs right i).1.foldl (fun m d => (replayR m d).2) [] = (deedsD as1 bs right i).2
 | 0 => ⟨rfl, rfl⟩
 | i + 1 => by
  obtain ⟨h1, h2⟩ := deedsD_play as1 bs right i
  obtain ⟨hl, _⟩ := deedsD_ok as1 bs right i
  have hd := deedD_play as1 bs right i (deedsD as1 bs right i).2
  unfold deedsD
  simp only
  constructor
  ·rw [replaysR_app _ _ [] (deedsD as1 bs right i).2 (by rw [h1, hl]) h2, hl]
   unfold replaysR
   rw [hd]
   rfl
  ·rw [List.foldl_append, h2, List.foldl_cons, List.foldl_nil, hd]
theorem deedsS_play (as1 bs : List Int) (right : Bool) : replaysR [] (deedsS as1 bs right) = (deedsS as1 bs right).length := by
 unfold deedsS
 rw [(deedsD_play as1 bs right _).1, (deedsD_ok as1 bs right _).1]
theorem deedsD_rise (as1 bs : List Int) : ∀ i, (deedsD as1 bs true i).1.Pairwise aheadD ∧ ∀ d ∈ (deedsD as1 bs true i).1, d.2.1 ≤ (i : Int)
 | 0 => ⟨List.Pairwise.nil, fun d h => nomatch h⟩
 | i + 1 => by
  obtain ⟨h1, h2⟩ := deedsD_rise as1 bs i
  have hd : (deedD as1 bs true i (deedsD as1 bs true i).2).1.2.1 = (i : Int) + 1 := rfl
  unfold deedsD
  simp only
  refine ⟨List.pairwise_append.2 ⟨h1, List.pairwise_singleton _ _, fun a ha b hb => ?_⟩, fun d h => ?_⟩
  ·rw [List.mem_singleton.1 hb]
   have := h2 a ha
   unfold aheadD
   rw [hd]
   omega
  ·rcases List.mem_append.1 h with h | h
   ·have := h2 d h
    omega
   ·rw [List.mem_singleton.1 h, hd]
    omega
theorem deedsS_sort (as1 bs : List Int) : sortD (deedsS as1 bs true) = deedsS as1 bs true := sortD_same (deedsD_rise as1 bs _).1
end Go.BB
set_option linter.unusedSimpArgs false
set_option linter.unusedVariables false
namespace Go.BB
open Go Go.Proofs
set_option maxRecDepth 100000
def newT (t : TellT) (v : Int) : TellT := (t.1, t.2.1, t.2.2.1, t.2.2.2.1, t.2.2.2.2.1, t.2.2.2.2.2.1, IntKind.u16.wrap (IntKind.u16.wrap (t.2.2.2.2.2.2.1 + 1) + v.tmod 9), t.2.2.2.2.2.2.2)
theorem wrap16 (n : Int) : IntKind.u16.wrap n = n % 65536 := by
 simp [IntKind.wrap, IntKind.signed, IntKind.bits]
theorem newT_ne {t : TellT} {v : Int} (hv : isW v = true) : sameTellB t (newT t v) = false := by
 refine decide_eq_false fun e => ?_
 have h : t.2.2.2.2.2.2.1 = IntKind.u16.wrap (IntKind.u16.wrap (t.2.2.2.2.2.2.1 + 1) + v.tmod 9) := congrArg (fun t : TellT => t.2.2.2.2.2.2.1) e
 obtain ⟨h1, h2⟩ := (isW_iff' v).1 hv
 rw [wrap16, wrap16, Int.tmod_eq_emod_of_nonneg h1] at h
 omega
def turn (l : List Deed) (k : Nat) (v : Int) : List Deed := dputD l k ((dgetD l k).set 0 (((dgetD l k).getD 0 zStep).1, newT ((dgetD l k).getD 0 zStep).2 v))
def turnD (d : Deed) (v : Int) : Deed := (d.1, d.2.1, d.2.2.1.set 0 ((d.2.2.1.getD 0 zStep).1, newT (d.2.2.1.getD 0 zStep).2 v), d.2.2.2)
theorem turn_zero (d : Deed) (l : List Deed) (v : Int) : turn (d :: l) 0 v = turnD d v :: l := rfl
theorem dgetD_lt {l : List Deed} {k : Nat} (hk : k < l.length) : dgetD l k = (l.getD k (false, 0, [], [])).2.2.1 := by
 unfold dgetD dget
 split
 ·rename_i x hx
  have hx : l[k]? = some x := hx
  have e : x = l.getD k (false, 0, [], []) := by rw [List.getD_eq_getElem?_getD, hx]; rfl
  rw [← e]; rfl
 ·rename_i hx
  have hx : l[k]? = none := hx
  rw [List.getElem?_eq_getElem hk] at hx; cases hx
theorem dputD_lt {l : List Deed} {k : Nat} {ys : List StepT} (hk : k < l.length) : dputD l k ys = l.set k ((l.getD k (false, 0, [], [])).1, (l.getD k (false, 0, [], [])).2.1, ys, (l.getD k (false, 0, [], [])).2.2.2) := by
 unfold dputD dput
 split
 ·rename_i x hx
  have hx : l[k]? = some x := hx
  have e : x = l.getD k (false, 0, [], []) := by rw [List.getD_eq_getElem?_getD, hx]; rfl
  rw [← e]; rfl
 ·rename_i hx
  have hx : l[k]? = none := hx
  rw [List.getElem?_eq_getElem hk] at hx; cases hx
theorem turn_set (l : List Deed) (k : Nat) (v : Int) (hk : k < l.length) : turn l k v = l.set k (turnD (l.getD k (false, 0, [], [])) v) := by
 unfold turn
 rw [dputD_lt hk, dgetD_lt hk]
 rfl
theorem dget_cons (d : Deed) (l : List Deed) (k : Nat) : dgetD (d :: l) (k + 1) = dgetD l k := rfl
theorem turn_succ (d : Deed) (l : List Deed) (k : Nat) (v : Int) (hk : k < l.length) : turn (d :: l) (k + 1) v = d :: turn l k v := by
 rw [turn_set l k v hk, turn_set (d :: l) (k + 1) v (by simp; exact hk)]
 rfl
theorem turn_replays (v : Int) (hv : isW v = true) : ∀ (l : List Deed) (m : List Cel) (k : Nat), replaysR m l = l.length → k < l.length → (dgetD l k).length ≠ 0 → replaysR m (turn l k v) = k
 | [], _, k, _, h, _ => by simp at h
 | d :: l, m, 0, h, _, hne => by
  rw [turn_zero]
  have hne : d.2.2.1.length ≠ 0 := hne
  have hc : (replayR m d).1 = true := by
   cases hc : (replayR m d).1 with
   | true => rfl
   | false =>
    have h' : (if (replayR m d).1 = true then replaysR (replayR m d).2 l + 1 else 0) = (d :: l).length := h
    rw [hc, if_neg (by simp)] at h'
    simp at h'
  have hp : (playR m d.2.2.1).1 = true := by
   cases hp : (playR m d.2.2.1).1 with
   | true => rfl
   | false =>
    have hc' : (if (playR m d.2.2.1).1 = true then (true, setR (playR m d.2.2.1).2 d.2.2.2) else (false, (playR m d.2.2.1).2)).1 = true := hc
    rw [hp, if_neg (by simp)] at hc'
    exact hc'
  obtain ⟨w, s, st, f⟩ := d
  cases st with
  | nil => exact absurd rfl hne
  | cons s1 st =>
   have hp : (if ((doR m s1.1).1.2 && sameTellB (doR m s1.1).1.1 s1.2) = true then playR (doR m s1.1).2 st else (false, (doR m s1.1).2)).1 = true := hp
   have hs : ((doR m s1.1).1.2 && sameTellB (doR m s1.1).1.1 s1.2) = true := by
    cases hs : ((doR m s1.1).1.2 && sameTellB (doR m s1.1).1.1 s1.2) with
    | true => rfl
    | false => rw [hs, if_neg (by simp)] at hp; exact hp
   have ht : (doR m s1.1).1.1 = s1.2 := of_decide_eq_true (Bool.and_eq_true_iff.1 hs).2
   have e1 : playR m (turnD (w, s, s1 :: st, f) v).2.2.1 = (false, (doR m s1.1).2) := by
    show (if ((doR m s1.1).1.2 && sameTellB (doR m s1.1).1.1 (newT s1.2 v)) = true then _ else _) = _
    rw [ht, newT_ne hv, Bool.and_false, if_neg (by simp)]
    rfl
   have e2 : (replayR m (turnD (w, s, s1 :: st, f) v)).1 = false := by
    unfold replayR
    rw [e1]
    rfl
   show (if (replayR m (turnD (w, s, s1 :: st, f) v)).1 = true then _ else 0) = 0
   rw [e2, if_neg (by simp)]
 | d :: l, m, k + 1, h, hk, hne => by
  rw [turn_succ _ _ _ _ (by simpa using hk)]
  have h' : (if (replayR m d).1 = true then replaysR (replayR m d).2 l + 1 else 0) = l.length + 1 := h
  have hne' : (dgetD l k).length ≠ 0 := by
   rw [← dget_cons d]; exact hne
  show (if (replayR m d).1 = true then replaysR (replayR m d).2 (turn l k v) + 1 else 0) = k + 1
  cases hc : (replayR m d).1 with
  | false => rw [hc, if_neg (by simp)] at h'; omega
  | true =>
   rw [hc, if_pos rfl] at h'
   rw [if_pos rfl, turn_replays v hv l _ k (by omega) (by simpa using hk) hne']
theorem turn_W (l : List Deed) (k : Nat) (v : Int) (hk : k < l.length) (hl : deedsW l = true) (hne : (dgetD l k).length ≠ 0) : deedsW (turn l k v) = true := by
 obtain ⟨h1, h2⟩ := deedsW_iff.1 hl
 rw [turn_set l k v hk]
 refine deedsW_iff.2 ⟨by rw [List.length_set]; exact h1, fun d hd => ?_⟩
 rcases List.mem_or_eq_of_mem_set hd with hd | rfl
 ·exact h2 d hd
 ·have hd := h2 _ (getD_mem hk (false, 0, [], []))
  have hne' : (l.getD k (false, 0, [], [])).2.2.1.length ≠ 0 := by
   rw [← dgetD_lt hk]; exact hne
  generalize l.getD k (false, 0, [], []) = d at hd hne' ⊢
  obtain ⟨g1, g2, g3, g4⟩ := deedW_iff.1 hd
  obtain ⟨o1, o2, o3⟩ := deedOk_iff.1 g4
  have hz : d.2.2.1.getD 0 zStep ∈ d.2.2.1 := getD_mem (by omega) zStep
  have z1 := stepW_iff.1 (g3 _ hz)
  refine deedW_iff.2 ⟨by show (d.2.2.1.set 0 _).length ≤ 3; rw [List.length_set]; exact g1, g2, fun s hs => ?_, deedOk_iff.2 ⟨by show (d.2.2.1.set 0 _).length < _; rw [List.length_set]; exact o1, o2, fun s hs => ?_⟩⟩
  ·rcases List.mem_or_eq_of_mem_set hs with hs | rfl
   ·exact g3 s hs
   ·exact stepW_iff.2 z1
  ·rcases List.mem_or_eq_of_mem_set hs with hs | rfl
   ·exact o3 s hs
   ·exact o3 (d.2.2.1.getD 0 zStep) hz
end Go.BB
