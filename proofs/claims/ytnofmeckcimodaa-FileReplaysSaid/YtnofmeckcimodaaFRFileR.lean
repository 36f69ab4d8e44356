/- A symbolic machine for the model's code, and what it shows of this seat's functions. No conditions. -/
import Derived.Test.YtnofmeckcimodaaFGfgb
import Derived.Test.YtnofmeckcimodaaFLRep2
import Derived.Test.YtnofmeckcimodaaFGfed
import Derived.Test.YtnofmeckcimodaaRows
import Derived.WalkKit
import Derived.ProofKit
set_option linter.unusedSimpArgs false
set_option linter.unusedVariables false
namespace Go.BB
open Go Go.Proofs
set_option maxRecDepth 100000
set_option maxHeartbeats 1000000
abbrev FRRes := Option ((Bool × Unit) × Unit × Unit × Unit × Unit × Unit)
abbrev frO (b : Bool) : FRRes := some ((b, ()), (), (), (), (), ())
def frFin (r s : List Deed) (k v : Int) : FRRes :=
 br (decide (0 ≤ k)) (br (decide (k < (r.length : Int))) (br ((↑(dgetD r k.toNat).length : Int) == 0) (frO true)
  (br (decide (0 ≤ k)) (br (decide (k < (r.length : Int))) (br (decide (k.toNat = k.toNat)) (br (decide (0 < (↑(dgetD r k.toNat).length : Int))) (br (!false)
   (br (decide (((dgetD r k.toNat).getD (Int.toNat 0) zStep).2.2.2.2.1.length * 2 ≤ LIM)) (br (decide (((dgetD r k.toNat).getD (Int.toNat 0) zStep).2.2.2.2.1.length ≤ LIM)) (br (decide (((dgetD r k.toNat).getD (Int.toNat 0) zStep).2.2.2.1.length * 1 ≤ LIM)) (br (decide (((dgetD r k.toNat).getD (Int.toNat 0) zStep).2.2.2.1.length ≤ LIM))
    (br (decide (0 ≤ k)) (br (decide (k < (r.length : Int))) (br (decide (k.toNat = k.toNat)) (br (decide (0 ≤ k)) (br (decide (k < (s.length : Int))) (br (decide (0 < (↑(dgetD r k.toNat).length : Int))) (br (decide (0 < (↑(dgetD s k.toNat).length : Int)))
     (bd (grd (deedsW (turn r k.toNat v)) (((↑(replaysF [] (turn r k.toNat v)) : Int), ()), (), ())) fun (x20 : (Int × Unit) × Unit × Unit) =>
      bd (grd (deedsW (dputD s k.toNat ((dgetD s k.toNat).set 0 (((dgetD s k.toNat).getD 0 zStep).1, newT ((dgetD r k.toNat).getD 0 zStep).2 v)))) (((↑(replaysR [] (dputD s k.toNat ((dgetD s k.toNat).set 0 (((dgetD s k.toNat).getD 0 zStep).1, newT ((dgetD r k.toNat).getD 0 zStep).2 v)))) : Int), ()), (), ())) fun (x21 : (Int × Unit) × Unit × Unit) =>
       br (x20.1.1 == x21.1.1) (bd (grd (deedsW (turn r k.toNat v)) (((↑(replaysF [] (turn r k.toNat v)) : Int), ()), (), ())) fun (x22 : (Int × Unit) × Unit × Unit) => some ((x22.1.1 == k, ()), (), (), (), (), ())) (frO false)) none) none) none) none) none) none) none) none) none) none) none) none) none) none) none) none)) none) none
def frMid (a0 a1 : List Int) (a2 a3 : Int) : FRRes :=
 bd (grd (decide (a0.length ≤ 100) && decide (a1.length ≤ 100)) ((deedsS a0 a1 true, deedsS a0 a1 true, ()), (), (), (), ())) fun (x12 : (List Deed × List Deed × Unit) × Unit × Unit × Unit × Unit) =>
  bd (grd (deedsW x12.1.1) (((↑(replaysF [] x12.1.1) : Int), ()), (), ())) fun (x13 : (Int × Unit) × Unit × Unit) => br (x13.1.1 != (↑x12.1.1.length : Int)) (frO false)
   (bd (bd (grd (decide (x12.1.1.length ≤ 20) && x12.1.1.all deedOk) ((sortD x12.1.1, ()), (), ())) fun (x16 : (List Deed × Unit) × Unit × Unit) => bd (grd (deedsW x16.1.1) (((↑(replaysF [] x16.1.1) : Int), ()), (), ())) fun (x17 : (Int × Unit) × Unit × Unit) => some x17.1.1) fun (x18 : Int) =>
    br (x18 != (↑x12.1.1.length : Int)) (frO false) (br ((↑x12.1.1.length : Int) == 0) (frO true)
     (bd (grd (decide (0 < (↑x12.1.1.length : Int)) && decide ((↑x12.1.1.length : Int) < 4611686018427387904)) ((a2 % (↑x12.1.1.length : Int), ()), (), (), ())) fun (x19 : (Int × Unit) × Unit × Unit × Unit) => frFin x12.1.1 x12.1.2.1 x19.1.1 a3)))
theorem lFR_eq (K : Nat) (a0 a1 : List Int) (a2 a3 : Int) : runF (cfgD [] [(n_forder, n_freplays), (n_rorder, n_rreplays)] g_lFileReplays) K f_lFileReplays lFileReplays_tm [.val (.slice tI), .val (.slice tI), .val tI, .val tW] [.val .bool] (a0, a1, a2, a3, ()) =
  br (decide ((↑a0.length : Int) > 20)) (frO true) (br (decide ((↑a1.length : Int) > 40)) (frO true) (br (!true) (frO true)
   (bd (grd (decide (a0.length ≤ 100) && decide (a1.length ≤ 100)) ((deedsS a0 a1 false, deedsS a0 a1 false, ()), (), (), (), ())) fun (x1 : (List Deed × List Deed × Unit) × Unit × Unit × Unit × Unit) =>
    bd (grd (deedsW x1.1.1) (((↑(replaysF [] x1.1.1) : Int), ()), (), ())) fun (x2 : (Int × Unit) × Unit × Unit) => bd (grd (deedsW x1.1.2.1) (((↑(replaysR [] x1.1.2.1) : Int), ()), (), ())) fun (x3 : (Int × Unit) × Unit × Unit) =>
     br (x2.1.1 != x3.1.1) (frO false)
      (bd (bd (grd (decide (x1.1.1.length ≤ 20) && x1.1.1.all deedOk) ((sortD x1.1.1, ()), (), ())) fun (x6 : (List Deed × Unit) × Unit × Unit) => bd (grd (deedsW x6.1.1) (((↑(replaysF [] x6.1.1) : Int), ()), (), ())) fun (x7 : (Int × Unit) × Unit × Unit) => some x7.1.1) fun (x8 : Int) =>
       bd (bd (grd (decide (x1.1.2.1.length ≤ 1000)) ((sortD x1.1.2.1, ()), (), ())) fun (x9 : (List Deed × Unit) × Unit × Unit) => bd (grd (deedsW x9.1.1) (((↑(replaysR [] x9.1.1) : Int), ()), (), ())) fun (x10 : (Int × Unit) × Unit × Unit) => some x10.1.1) fun (x11 : Int) =>
        br (x8 != x11) (frO false) (frMid a0 a1 a2 a3))))) := by kernel_rfl
theorem deedW_ok {d : Deed} (h : deedW d = true) : deedOk d = true := (deedW_iff.1 h).2.2.2
theorem deedsW_ok {l : List Deed} (h : deedsW l = true) : l.all deedOk = true := List.all_eq_true.2 fun d hd => deedW_ok ((deedsW_iff.1 h).2 d hd)
theorem frFin_true (r : List Deed) (k v : Int) (hr : deedsW r = true) (hp : replaysR [] r = r.length) (h0 : 0 ≤ k) (h1 : k < (r.length : Int)) (hv : isW v = true) : frFin r r k v = frO true := by
 have hk : k.toNat < r.length := by omega
 unfold frFin
 rw [br_dt h0, br_dt h1]
 by_cases hne : (dgetD r k.toNat).length = 0
 ·rw [br_t (by rw [hne]; rfl)]
 ·obtain ⟨g1, g2⟩ := deedsW_iff.1 hr
  obtain ⟨d1, d2, d3, d4⟩ := deedW_iff.1 (g2 _ (getD_mem hk (false, 0, [], [])))
  have hst : (dgetD r k.toNat).getD (Int.toNat 0) zStep ∈ (r.getD k.toNat (false, 0, [], [])).2.2.1 := by
   rw [← dgetD_lt hk]
   exact getD_mem (show Int.toNat 0 < _ from Nat.pos_of_ne_zero hne) zStep
  have ht := (stepW_iff.1 (d3 _ hst)).2.2.2
  unfold tellLen at ht
  simp only [Bool.and_eq_true] at ht
  have t1 := lenOk_lt ht.1
  have t2 := lenOk_lt ht.2.1
  have hw := turn_W r k.toNat v hk hr hne
  have e1 := turn_replays v hv r [] k.toNat hp hk hne
  have e2 := (replays_eq (turn r k.toNat v)).trans e1
  rw [br_f (by simpa using hne), br_dt h0, br_dt h1, br_dt rfl, br_dt (by omega), show br (!false) = fun (x y : FRRes) => x from rfl]
  simp only
  rw [br_dt (by unfold LIM; omega), br_dt (by unfold LIM; omega), br_dt (by unfold LIM; omega), br_dt (by unfold LIM; omega), br_dt h0, br_dt h1, br_dt trivial, br_dt h0, br_dt h1, br_dt (by omega), br_dt (by omega), bd_grd hw]
  simp only
  have hw2 : deedsW (dputD r k.toNat ((dgetD r k.toNat).set 0 (((dgetD r k.toNat).getD 0 zStep).1, newT ((dgetD r k.toNat).getD 0 zStep).2 v))) = true := hw
  have e3 : replaysR [] (dputD r k.toNat ((dgetD r k.toNat).set 0 (((dgetD r k.toNat).getD 0 zStep).1, newT ((dgetD r k.toNat).getD 0 zStep).2 v))) = k.toNat := e1
  rw [bd_grd hw2, e2]
  simp only
  rw [e3, br_t (by simp), bd_grd hw]
  show (some ((((k.toNat : Nat) : Int) == k, ()), (), (), (), (), ()) : FRRes) = _
  rw [show ((k.toNat : Nat) : Int) = k by omega, beq_self_eq_true]
theorem frMid_true (as1 bs : List Int) (w v : Int) (h1 : as1.length ≤ 20) (h2 : bs.length ≤ 40) (hv : isW v = true) : frMid as1 bs w v = frO true := by
 have hr := deedsS_W as1 bs true
 have hp := deedsS_play as1 bs true
 have hs := deedsS_sort as1 bs
 unfold frMid
 rw [bd_grd (and_t (decide_eq_true (by omega)) (decide_eq_true (by omega)))]
 simp only
 generalize deedsS as1 bs true = r at hr hp hs ⊢
 have hF : replaysF [] r = r.length := (replays_eq r).trans hp
 have hl := (deedsW_iff.1 hr).1
 rw [bd_grd hr]
 simp only
 rw [hF, br_f (by simp), bd_grd (and_t (decide_eq_true hl) (deedsW_ok hr))]
 simp only
 rw [hs, bd_grd hr]
 simp only
 rw [hF]
 show br ((r.length : Int) != (r.length : Int)) _ _ = _
 rw [br_f (by simp)]
 by_cases h0 : r.length = 0
 ·rw [br_t (by rw [h0]; rfl)]
 ·rw [br_f (by simpa using h0), bd_grd (and_t (decide_eq_true (by omega)) (decide_eq_true (by omega)))]
  simp only
  exact frFin_true r _ v hr hp (Int.emod_nonneg _ (by omega)) (Int.emod_lt_of_pos _ (by omega)) hv
theorem lv_FileReplays : Valid Try.prog n_lFileReplays ⟨valsOf [.slice tI, .slice tI, tI, tW], [.val .bool], Fok (tys := [.slice tI, .slice tI, tI, tW]) (fun x => isW x.2.2.2.1) ((), (), (), (), ())⟩ := by
 refine valid_law mixed hf_lFileReplays (by kernel_rfl) rfl (ts := tmpsOf f_lFileReplays.results.toList) (by kernel_rfl) (cfg := cfgD [] [(n_forder, n_freplays), (n_rorder, n_rreplays)] g_lFileReplays) tt_ok
  (Γok_cons v_awake27 (Γok_cons v_deedsX (Γok_cons v_freplays (Γok_cons v_rreplays (Γok_cons v_forder (Γok_cons v_rorder (Γok_cons v_within Γok_nil))))))) lFileReplays_tm (by kernel_rfl) ?_
 rintro ⟨(as1 : List Int), (bs : List Int), (w : Int), (v : Int), ⟨⟩⟩ hv
 have hv : isW v = true := hv
 refine ⟨0, (lFR_eq _ _ _ _ _).trans ?_⟩
 by_cases h1 : (as1.length : Int) > 20
 ·rw [br_dt h1]; rfl
 rw [br_df h1]
 by_cases h2 : (bs.length : Int) > 40
 ·rw [br_dt h2]; rfl
 rw [br_df h2, show br (!true) = fun (x y : FRRes) => y from rfl]
 simp only
 rw [bd_grd (and_t (decide_eq_true (by omega)) (decide_eq_true (by omega)))]
 simp only
 have hm := frMid_true as1 bs w v (by omega) (by omega) hv
 have hr := deedsS_W as1 bs false
 generalize deedsS as1 bs false = l at hr ⊢
 have hl := (deedsW_iff.1 hr).1
 have hsw := sortD_W hr
 rw [bd_grd hr]
 simp only
 rw [bd_grd hr]
 simp only
 rw [replays_eq, br_f (by simp), bd_grd (and_t (decide_eq_true hl) (deedsW_ok hr))]
 simp only
 rw [bd_grd hsw]
 simp only
 rw [bd_grd (decide_eq_true (by omega))]
 simp only
 rw [bd_grd hsw]
 show br (((replaysF [] (sortD l) : Nat) : Int) != ((replaysR [] (sortD l) : Nat) : Int)) (frO false) (frMid as1 bs w v) = _
 rw [replays_eq, br_f (by simp), hm]
 rfl
theorem isW_inR {n : Int} (h : InR2 (.int .u16) n) : isW n = true := by
 simp only [InR2, Lit.wf] at h
 simp only [IntKind.min, IntKind.max, IntKind.signed, IntKind.bits] at h
 simp [isW] at h ⊢
 omega
end Go.BB
set_option linter.unusedSimpArgs false
set_option linter.unusedVariables false
namespace Go.Proofs.Ytnofmeckcimodaa
open Go.BB Go.ChangeShapes Go.WideShapes Go.ChangeAt Go.RowKit
namespace Bb
theorem own : ownKnob Try.prog.godebug = none := by kernel_rfl
theorem laidOut : laidOutB Try.prog = true := by kernel_rfl
theorem reads (ts : List Nat) (h : (ts.all fun t => Try.prog.readableRec t && decide (t < Try.prog.types.size)) = true) : ∀ t ∈ ts, Try.prog.readableRec t = true ∧ t < Try.prog.types.size := by
 intro t ht
 have := List.all_eq_true.1 h t ht
 simpa using this
end Bb
namespace fileReplays
set_option maxRecDepth 100000 in
theorem lifted (os : Os) (started : os.Started) (H : Type) (enc : TypeId × Value → H) :
  ReturnsInHanded {} Try.checked os 12 .any (Rows.fileReplaysSpec.pre6 enc Try.prog Try.f12 Rows.fileReplaysRow.domain false) (Rows.fileReplaysSpec.post enc Try.prog Try.f12 false true false false) :=
 law_lifted2 (C := Try.checked) (O := O0) (tys := [.slice tI, .slice tI, tI, tW]) Bb.own started (by kernel_rfl) Try.func12
  (ChangeSpec.witness6 (enc := enc) (C := Try.checked) false ⟨#[], #[.slice none 0 0, .slice none 0 0, .int .i64 0, .int .u16 0], []⟩ 8 (by kernel_rfl) (by kernel_rfl) (by kernel_rfl) (by kernel_rfl))
  Bb.laidOut (by kernel_rfl) (Bb.reads _ (by kernel_rfl)) rfl Try.underlying4 rfl (fun ds h => by match ds, h with | [_, _, _, _], _ => rfl) lv_FileReplays (fun x h => ⟨_, grd_t (isW_inR h.2.2.2.1)⟩)
theorem over : Rows.fileReplaysRow.holds Try.pinned (OpenSpec.ofChange Rows.fileReplaysSpec) :=
 OpenClaim.holds_of_wide 12 Try.f12 rfl rfl rfl rfl rfl rfl rfl ⟨rfl, rfl, rfl, rfl, rfl⟩ rfl rfl rfl rfl rfl (by kernel_rfl) Try.func12 (by kernel_rfl)
  (of_decide_eq_true (by kernel_rfl)) (by unfold Func.isWrapper; first | (rw [if_pos (by decide +kernel)]; kernel_rfl) | (rw [if_neg (by decide +kernel)]; exact ⟨rfl, rfl⟩))
  (fun os started H enc _ => lifted os started H enc)
end fileReplays
theorem fileReplays_holds : Rows.FileReplaysSaid := fileReplays.over
#print axioms fileReplays_holds
end Go.Proofs.Ytnofmeckcimodaa
