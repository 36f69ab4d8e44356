/- A symbolic machine for the model's code, and what it shows of this seat's functions. No conditions. -/
import Derived.Test.YtnofmeckcimodaaDGfda
import Derived.Test.YtnofmeckcimodaaDLawKit
import Derived.Test.YtnofmeckcimodaaDVbuff
import Derived.Test.YtnofmeckcimodaaDGfdv
import Derived.Test.YtnofmeckcimodaaDN
set_option linter.unusedSimpArgs false
set_option linter.unusedVariables false
namespace Go.BB
open Go Go.Proofs
set_option maxRecDepth 100000
theorem known_iff (f : Int) : knownS f = true ↔ f = 1 ∨ f = 2 ∨ f = 3 ∨ f = 4 ∨ f = 5 ∨ f = 6 ∨ f = 15 ∨ f = 16 ∨ f = 22 ∨ f = 23 ∨ f = 43 := by
  constructor
  · intro h
    apply Classical.byContradiction
    intro hc
    simp only [not_or] at hc
    obtain ⟨h1, h2, h3, h4, h5, h6, h7, h8, h9, h10, h11⟩ := hc
    simp [knownS, tabS, tabL, swv, h1, h2, h3, h4, h5, h6, h7, h8, h9, h10, h11] at h
  · rintro (rfl | rfl | rfl | rfl | rfl | rfl | rfl | rfl | rfl | rfl | rfl) <;> rfl
theorem brNo {u : Type} {x : u} (c e : Bool) : br c (some ((false, ()), x)) (some ((e, ()), x)) = some (((!c && e), ()), x) := by cases c <;> rfl
theorem brAnd {u : Type} {x : u} (c e : Bool) : br c (some ((e, ()), x)) (some ((false, ()), x)) = some (((c && e), ()), x) := by cases c <;> rfl
theorem v_r1Known : Valid Try.prog n_r1Known c_r1Known := by
  refine valid_fn mixed hf_r1Known (by kernel_rfl) rfl (ts := tmpsOf f_r1Known.results.toList) (by kernel_rfl) (cfg := cfgW g_r1Known) tt_ok Γok_nil r1Known_tm c_r1Known (by kernel_rfl) (fun _ _ _ _ => ⟨⟩) ?_
  rintro ⟨(f : Int), ⟨⟩⟩ r u h
  refine ⟨0, (r1Known_rn _ _).trans (Eq.trans ?_ h)⟩
  show r1Known_P 0 f = some ((knownS f, ()), ((), ()))
  cases hk : knownS f with
  | true =>
    rcases (known_iff f).1 hk with rfl | rfl | rfl | rfl | rfl | rfl | rfl | rfl | rfl | rfl | rfl <;> rfl
  | false =>
    have hn : ¬ _ := mt (known_iff f).2 (by rw [hk]; decide)
    simp only [not_or] at hn
    obtain ⟨h1, h2, h3, h4, h5, h6, h7, h8, h9, h10, h11⟩ := hn
    unfold r1Known_P
    have e : ∀ {k : Int}, f ≠ k → (f == k) = false := fun h => beq_eq_false_iff_ne.2 h
    rw [e h7, e h8, e h9, e h10, e h11]
    by_cases h : f ≥ 1
    · rw [br_dt h, br_df (by omega)]; rfl
    · rw [br_df h]; rfl
theorem v_r1Table : Valid Try.prog n_r1Table c_r1Table := by
  refine valid_fn mixed hf_r1Table (by kernel_rfl) rfl (ts := tmpsOf f_r1Table.results.toList) (by kernel_rfl) (cfg := cfgW g_r1Table) tt_ok Γok_nil r1Table_tm c_r1Table (by kernel_rfl) (fun _ _ _ _ => ⟨⟩) ?_
  rintro ⟨(f : Int), ⟨⟩⟩ r u h
  refine ⟨0, (r1Table_rn _ _).trans (Eq.trans ?_ h)⟩
  exact sw_eq f (fun p : Int × Bool => ((p.1, p.2, ()), ((), ()))) tabL (0, false)
theorem v_r1Most : Valid Try.prog n_r1Most c_r1Most := by
  refine valid_fn mixed hf_r1Most (by kernel_rfl) rfl (ts := tmpsOf f_r1Most.results.toList) (by kernel_rfl) (cfg := cfgW g_r1Most) tt_ok Γok_nil r1Most_tm c_r1Most (by kernel_rfl) (fun _ _ _ _ => ⟨⟩) ?_
  rintro ⟨(f : Int), ⟨⟩⟩ r u h
  refine ⟨0, (r1Most_rn _ _).trans (Eq.trans ?_ h)⟩
  exact sw_eq f (fun p : Int × Int => ((p.1, p.2, ()), ((), ()))) mostL (0, 0)
theorem v_r5place : Valid Try.prog n_r5place c_r5place := by
  refine valid_fn mixed hf_r5place (by kernel_rfl) rfl (ts := tmpsOf f_r5place.results.toList) (by kernel_rfl) (cfg := cfgW g_r5place) tt_ok Γok_nil r5place_tm c_r5place (by kernel_rfl) (fun _ _ _ _ => ⟨⟩) ?_
  rintro ⟨(f : Int), ⟨⟩⟩ r u h
  refine ⟨0, (r5place_rn _ _).trans (Eq.trans ?_ h)⟩
  exact brAnd _ _
theorem v_r5byte : Valid Try.prog n_r5byte c_r5byte := by
  refine valid_fn mixed hf_r5byte (by kernel_rfl) rfl (ts := tmpsOf f_r5byte.results.toList) (by kernel_rfl) (cfg := cfgW g_r5byte) tt_ok Γok_nil r5byte_tm c_r5byte (by kernel_rfl) (fun _ _ _ _ => ⟨⟩) ?_
  rintro ⟨(f : Int), ⟨⟩⟩ r u h
  refine ⟨0, (r5byte_rn _ _).trans (Eq.trans ?_ h)⟩
  exact brAnd _ _
theorem len_gt {α : Type} (l : List α) : (!decide ((l.length : Int) > 0)) = decide (l.length = 0) := by
  cases l with
  | nil => rfl
  | cons a l => simp
theorem v_r5plain : Valid Try.prog n_r5plain c_r5plain := by
  refine valid_fn mixed hf_r5plain (by kernel_rfl) rfl (ts := tmpsOf f_r5plain.results.toList) (by kernel_rfl) (cfg := cfgW g_r5plain) tt_ok Γok_nil r5plain_tm c_r5plain (by kernel_rfl) (fun _ _ _ _ => ⟨⟩) ?_
  rintro ⟨(⟨f, at1, n, v, an, o, bs, ws, ra, rn, c, ob⟩ : AskT), ⟨⟩⟩ r u h
  obtain ⟨h1, h2⟩ := grd_some h
  refine ⟨0, Eq.trans ?_ (congrArg some h2)⟩
  have hb : ∀ (x y : Int), (!(x != y)) = (x == y) := fun x y => by simp [bne]
  have key : ∀ b : Bool, b = plainA (f, at1, n, v, an, o, bs, ws, ra, rn, c, ob) → (some ((b, ()), (), ()) : Option ((Bool × Unit) × Unit × Unit)) = some ((plainA (f, at1, n, v, an, o, bs, ws, ra, rn, c, ob), ()), (), ()) := fun b e => by rw [e]
  rcases (known_iff f).1 h1 with rfl | rfl | rfl | rfl | rfl | rfl | rfl | rfl | rfl | rfl | rfl
  · refine (r5plain_1 0 at1 n v an o bs ws ra rn c ob).trans ?_
    simp only [brNo, hb, len_gt]
    refine key _ ?_
    simp [plainA, inN, manyF, oneF, Bool.and_assoc, aFn, aAt, aN, aVal, aAnd, aOr, aBits, aWords, aRAt, aRN, aCode, aObj]
  · refine (r5plain_2 0 at1 n v an o bs ws ra rn c ob).trans ?_
    simp only [brNo, hb, len_gt]
    refine key _ ?_
    simp [plainA, inN, manyF, oneF, Bool.and_assoc, aFn, aAt, aN, aVal, aAnd, aOr, aBits, aWords, aRAt, aRN, aCode, aObj]
  · refine (r5plain_3 0 at1 n v an o bs ws ra rn c ob).trans ?_
    simp only [brNo, hb, len_gt]
    refine key _ ?_
    simp [plainA, inN, manyF, oneF, Bool.and_assoc, aFn, aAt, aN, aVal, aAnd, aOr, aBits, aWords, aRAt, aRN, aCode, aObj]
  · refine (r5plain_4 0 at1 n v an o bs ws ra rn c ob).trans ?_
    simp only [brNo, hb, len_gt]
    refine key _ ?_
    simp [plainA, inN, manyF, oneF, Bool.and_assoc, aFn, aAt, aN, aVal, aAnd, aOr, aBits, aWords, aRAt, aRN, aCode, aObj]
  · refine (r5plain_5 0 at1 n v an o bs ws ra rn c ob).trans ?_
    simp only [brNo, hb, len_gt]
    refine key _ ?_
    simp [plainA, inN, manyF, oneF, Bool.and_assoc, aFn, aAt, aN, aVal, aAnd, aOr, aBits, aWords, aRAt, aRN, aCode, aObj]
  · refine (r5plain_6 0 at1 n v an o bs ws ra rn c ob).trans ?_
    simp only [brNo, hb, len_gt]
    refine key _ ?_
    simp [plainA, inN, manyF, oneF, Bool.and_assoc, aFn, aAt, aN, aVal, aAnd, aOr, aBits, aWords, aRAt, aRN, aCode, aObj]
  · refine (r5plain_15 0 at1 n v an o bs ws ra rn c ob).trans ?_
    simp only [brNo, hb, len_gt]
    refine key _ ?_
    simp [plainA, inN, manyF, oneF, Bool.and_assoc, aFn, aAt, aN, aVal, aAnd, aOr, aBits, aWords, aRAt, aRN, aCode, aObj]
  · refine (r5plain_16 0 at1 n v an o bs ws ra rn c ob).trans ?_
    simp only [brNo, hb, len_gt]
    refine key _ ?_
    simp [plainA, inN, manyF, oneF, Bool.and_assoc, aFn, aAt, aN, aVal, aAnd, aOr, aBits, aWords, aRAt, aRN, aCode, aObj]
  · refine (r5plain_22 0 at1 n v an o bs ws ra rn c ob).trans ?_
    simp only [brNo, hb, len_gt]
    refine key _ ?_
    simp [plainA, inN, manyF, oneF, Bool.and_assoc, aFn, aAt, aN, aVal, aAnd, aOr, aBits, aWords, aRAt, aRN, aCode, aObj]
  · refine (r5plain_23 0 at1 n v an o bs ws ra rn c ob).trans ?_
    simp only [brNo, hb, len_gt]
    refine key _ ?_
    simp [plainA, inN, manyF, oneF, Bool.and_assoc, aFn, aAt, aN, aVal, aAnd, aOr, aBits, aWords, aRAt, aRN, aCode, aObj]
  · refine (r5plain_43 0 at1 n v an o bs ws ra rn c ob).trans ?_
    simp only [brNo, hb, len_gt]
    refine key _ ?_
    simp [plainA, inN, manyF, oneF, Bool.and_assoc, aFn, aAt, aN, aVal, aAnd, aOr, aBits, aWords, aRAt, aRN, aCode, aObj]
theorem askEta (a : AskT) : ((a.1, a.2.1, a.2.2.1, a.2.2.2.1, a.2.2.2.2.1, a.2.2.2.2.2.1, a.2.2.2.2.2.2.1, a.2.2.2.2.2.2.2.1, a.2.2.2.2.2.2.2.2.1, a.2.2.2.2.2.2.2.2.2.1, a.2.2.2.2.2.2.2.2.2.2.1, a.2.2.2.2.2.2.2.2.2.2.2) : AskT) = a := rfl
theorem v_r5Right : Valid Try.prog n_r5Right c_r5Right := by
  refine valid_fn mixed hf_r5Right (by kernel_rfl) rfl (ts := tmpsOf f_r5Right.results.toList) (by kernel_rfl) (cfg := cfgW g_r5Right) tt_ok (Γok_cons v_r1Known (Γok_cons v_r5plain (Γok_cons v_r5place (Γok_cons v_r1Most (Γok_cons v_r5byte Γok_nil))))) r5Right_tm c_r5Right (by kernel_rfl) (fun _ _ _ _ => ⟨⟩) ?_
  rintro ⟨(a : AskT), ⟨⟩⟩ r u h
  refine ⟨0, (r5Right_rn _ _).trans (Eq.trans ?_ h)⟩
  show r5Right_P 0 a = some ((askOk a, ()), ((), ()))
  unfold r5Right_P askOk
  simp only [askEta]
  cases hk : knownS a.1 with
  | false => rfl
  | true =>
    show bd (grd true _) _ = _
    rw [bd_grd rfl]
    cases hp : plainA a with
    | false => rfl
    | true =>
      cases hq : placeN a.2.1 with
      | false => rfl
      | true =>
        cases hr : placeN a.2.2.2.2.2.2.2.2.1 with
        | false => rfl
        | true =>
          show _ = some ((sizeA a, ()), ((), ()))
          clear hp hq hr h
          obtain ⟨f, at1, n, v, an, o, bs, ws, ra, rn, c, ob⟩ := a
          have hle : ∀ (x y : Int), decide (x ≥ y) = decide (y ≤ x) := fun _ _ => rfl
          have hlen : ∀ (l : Nat) (y : Int), ((l : Int) == y) = decide ((l : Int) = y) := fun _ _ => rfl
          rcases (known_iff f).1 hk with rfl | rfl | rfl | rfl | rfl | rfl | rfl | rfl | rfl | rfl | rfl <;>
            first
            | rfl
            | exact brAnd _ _
            | (simp only [brAnd]; rfl)
theorem v_r5Spans : Valid Try.prog n_r5Spans c_r5Spans := by
  refine valid_fn mixed hf_r5Spans (by kernel_rfl) rfl (ts := tmpsOf f_r5Spans.results.toList) (by kernel_rfl) (cfg := cfgW g_r5Spans) tt_ok (Γok_cons v_r5Right (Γok_cons v_r1Table Γok_nil)) r5Spans_tm c_r5Spans (by kernel_rfl) (fun _ _ _ _ => ⟨⟩) ?_
  rintro ⟨(a : AskT), ⟨⟩⟩ r u h
  refine ⟨0, (r5Spans_rn _ _).trans (Eq.trans ?_ h)⟩
  show r5Spans_P 0 a = some (((spansA a).1, (spansA a).2, ()), ((), ()))
  unfold r5Spans_P spansA
  simp only [askEta]
  cases hk : askOk a with
  | false => rfl
  | true =>
    obtain ⟨f, at1, n, v, an, o, bs, ws, ra, rn, c, ob⟩ := a
    unfold askOk sizeA at hk
    simp only [Bool.and_eq_true, aFn, aAt, aN, aVal, aAnd, aOr, aBits, aWords, aRAt, aRN, aCode, aObj, placeN, inN, byteN, decide_eq_true_eq] at hk
    obtain ⟨h1, _, h2, h3, h4⟩ := hk
    rcases (known_iff f).1 h1 with rfl | rfl | rfl | rfl | rfl | rfl | rfl | rfl | rfl | rfl | rfl
    all_goals simp at h4
    all_goals first
      | (refine Eq.trans (b := some (([((tabS _).1, at1, IntKind.i64.wrap (at1 + n))], [], ()), (), ())) rfl ?_
         rw [wrapI (n := at1 + n) (by omega) (by omega)]
         rfl)
      | (refine Eq.trans (b := some (([], [((tabS _).1, at1, IntKind.i64.wrap (at1 + 1))], ()), (), ())) rfl ?_
         rw [wrapI (n := at1 + 1) (by omega) (by omega)]
         rfl)
      | (refine Eq.trans (b := some (([], [((tabS _).1, at1, IntKind.i64.wrap (at1 + n))], ()), (), ())) rfl ?_
         rw [wrapI (n := at1 + n) (by omega) (by omega)]
         rfl)
      | (refine Eq.trans (b := some (([((tabS _).1, ra, IntKind.i64.wrap (ra + rn))], [((tabS _).1, at1, IntKind.i64.wrap (at1 + n))], ()), (), ())) rfl ?_
         rw [wrapI (n := at1 + n) (by omega) (by omega), wrapI (n := ra + rn) (by omega) (by omega)]
         rfl)
      | rfl
theorem v_r5Echo : Valid Try.prog n_r5Echo c_r5Echo := by
  refine valid_fnc mixed hf_r5Echo (by kernel_rfl) rfl (cfg := cfgW g_r5Echo) tt_ok (Γok_cons v_r5Right Γok_nil) r5Echo_tm c_r5Echo (by kernel_rfl) (fun _ _ _ _ => ⟨⟩) ?_
  rintro ⟨(a : AskT), ⟨⟩⟩ r u h
  refine ⟨0, (r5Echo_rn _ _).trans (Eq.trans ?_ h)⟩
  show r5Echo_P 0 a = some ((echoA a, ()), ((), ()))
  unfold r5Echo_P echoA
  simp only [askEta]
  cases hk : askOk a with
  | false => rfl
  | true =>
    obtain ⟨f, at1, n, v, an, o, bs, ws, ra, rn, c, ob⟩ := a
    have h1 : knownS f = true := by
      unfold askOk at hk
      simp only [Bool.and_eq_true] at hk
      exact hk.1
    rcases (known_iff f).1 h1 with rfl | rfl | rfl | rfl | rfl | rfl | rfl | rfl | rfl | rfl | rfl <;> rfl
end Go.BB
set_option linter.unusedSimpArgs false
set_option linter.unusedVariables false
namespace Go.BB
open Go Go.Proofs
set_option maxRecDepth 100000
theorem v_words : Valid Try.prog n_words c_words := by
  refine valid_fn mixed hf_words (by kernel_rfl) rfl (ts := tmpsOf f_words.results.toList) (by kernel_rfl) (cfg := cfgW g_words) tt_ok (Γok_cons v_within Γok_nil) words_tm c_words (by kernel_rfl) (fun _ _ _ _ => ⟨⟩) ?_
  rintro ⟨(k : Int), (n : Int), ⟨⟩⟩ r u h
  obtain ⟨h1, h2⟩ := grd_some h
  have hn : n ≤ 1000 := of_decide_eq_true h1
  refine ⟨n.toNat + 1, (words_rn _ _ _).trans (Eq.trans ?_ (congrArg some h2))⟩
  show words_P (n.toNat + 1) k n = some ((wordsS k n, ()), ((), (), ()))
  unfold words_P
  have a0 := Int.emod_nonneg k (show (60000 : Int) ≠ 0 by decide)
  have a1 := Int.emod_lt_of_pos k (show (0 : Int) < 60000 by decide)
  refine loopN_for (step := words_L1) n.toNat (fun i => (k, n, (List.range i).map (fun (j : Nat) => IntKind.u16.wrap (k % 60000 + (j : Int))), (i : Int), ())) (fun i hi rec => ?_) (fun rec => ?_) (n.toNat + 1) (by omega)
  · have e : ((List.range i).map (fun (j : Nat) => IntKind.u16.wrap (k % 60000 + (j : Int)))).length = i := by simp
    simp only [words_L1]
    rw [br_dt (by omega), bd_grd (by decide)]
    simp only
    rw [wrapI (n := k % 60000 + (i : Int)) (by omega) (by omega), br_dt (by rw [e]; simp only [List.length_singleton, LIM]; omega), br_dt (by rw [e]; simp only [List.length_singleton, LIM]; omega), wrapI (by omega) (by omega)]
    have e2 : (List.range (i + 1)).map (fun (j : Nat) => IntKind.u16.wrap (k % 60000 + (j : Int))) = cat ((List.range i).map (fun (j : Nat) => IntKind.u16.wrap (k % 60000 + (j : Int)))) [IntKind.u16.wrap (k % 60000 + (i : Int))] := by
      rw [List.range_succ, List.map_append]; rfl
    rw [e2]
    rfl
  · simp only [words_L1]
    rw [br_df (by omega)]
    rfl
theorem brNTc {α : Type} {x y : α} : br (!false) x y = x := rfl
theorem ask_L2_eq : ask_L2 = ask_L1 := by kernel_rfl
theorem ask_bits (K : Nat) (v at1 n : Int) (h0 : 0 ≤ n) (h1 : n ≤ 100) (hK : 100 < K) :
    loopN ask_L1 K (v, ((0 : Int), (0 : Int), (0 : Int), (0 : Int), (0 : Int), (0 : Int), (), (), (0 : Int), (0 : Int), (0 : Int), (0 : Int), ()), n, ((15 : Int), at1, n, (0 : Int), (0 : Int), (0 : Int), [], (), (0 : Int), (0 : Int), (0 : Int), (0 : Int), ()), (0 : Int), ()) = some ((ask0 15 at1 n 0 0 0 (bitsS v n) [] 0 0 0 0, ()), (), (), ()) := by
  refine loopN_for (step := ask_L1) n.toNat (fun i => (v, ((0 : Int), (0 : Int), (0 : Int), (0 : Int), (0 : Int), (0 : Int), (), (), (0 : Int), (0 : Int), (0 : Int), (0 : Int), ()), n, ((15 : Int), at1, n, (0 : Int), (0 : Int), (0 : Int), (List.range i).map (fun (j : Nat) => (v % (7 + (j : Int))).tmod 2 == 1), (), (0 : Int), (0 : Int), (0 : Int), (0 : Int), ()), (i : Int), ())) (fun i hi rec => ?_) (fun rec => ?_) K (by omega)
  · have e : ((List.range i).map (fun (j : Nat) => (v % (7 + (j : Int))).tmod 2 == 1)).length = i := by simp
    simp only [ask_L1]
    rw [br_dt (by omega), wrapI (n := 7 + (i : Int)) (by omega) (by omega), bd_grd (and_t (decide_eq_true (by omega)) (decide_eq_true (by omega)))]
    simp only
    rw [brNTc, br_dt (by rw [e]; simp only [List.length_singleton, LIM]; omega), br_dt (by rw [e]; simp only [List.length_singleton, LIM]; omega), wrapI (by omega) (by omega)]
    have e2 : (List.range (i + 1)).map (fun (j : Nat) => (v % (7 + (j : Int))).tmod 2 == 1) = cat ((List.range i).map (fun (j : Nat) => (v % (7 + (j : Int))).tmod 2 == 1)) [(v % (7 + (i : Int))).tmod 2 == 1] := by
      rw [List.range_succ, List.map_append]; rfl
    rw [e2]
    rfl
  · simp only [ask_L1]
    rw [br_df (by omega)]
    rfl
end Go.BB
set_option linter.unusedSimpArgs false
set_option linter.unusedVariables false
namespace Go.BB
open Go Go.Proofs
set_option maxRecDepth 100000
theorem brfz {α : Type} {x y : α} : br false x y = y := rfl
theorem brtz {α : Type} {x y : α} : br true x y = x := rfl
theorem v_ask : Valid Try.prog n_ask c_ask := by
  refine valid_fnc mixed hf_ask (by kernel_rfl) rfl (cfg := cfgW g_ask) tt_ok (Γok_cons v_digit (Γok_cons v_within (Γok_cons v_words Γok_nil))) ask_tm c_ask (by kernel_rfl) (fun _ _ _ _ => ⟨⟩) ?_
  rintro ⟨(k : Int), (v : Int), ⟨⟩⟩ r u h
  refine ⟨200, (ask_rn _ _ _).trans (Eq.trans ?_ h)⟩
  show ask_P 200 k v = some ((askS k v, ()), ((), (), ()))
  clear h
  have d2 := digitS_range k 640 (n := 6) (by decide)
  have v2 : IntKind.u16.wrap (v % 2) = v % 2 := wrapW (Int.emod_nonneg _ (by decide)) (by have := Int.emod_lt_of_pos v (show (0 : Int) < 2 by decide); omega)
  have v6 : IntKind.u16.wrap (v % 60000) = v % 60000 := wrapW (Int.emod_nonneg _ (by decide)) (by have := Int.emod_lt_of_pos v (show (0 : Int) < 60000 by decide); omega)
  have v7 : IntKind.u16.wrap (v % 65536) = v % 65536 := wrapW (Int.emod_nonneg _ (by decide)) (by have := Int.emod_lt_of_pos v (show (0 : Int) < 65536 by decide); omega)
  have d5 := digitS_range v 65536 (n := 65536) (by decide)
  have v8 : IntKind.u16.wrap (digitS v 65536 65536) = digitS v 65536 65536 := wrapW d5.1 (by omega)
  have d6 := digitS_range v 40 (n := 6) (by decide)
  have v9 : IntKind.i64.wrap (1 + digitS v 40 6) = 1 + digitS v 40 6 := wrapI (by omega) (by omega)
  have v10 : IntKind.i64.wrap (1 + v % 4) = 1 + v % 4 := wrapI (by have := Int.emod_nonneg v (show (4 : Int) ≠ 0 by decide); omega) (by have := Int.emod_lt_of_pos v (show (0 : Int) < 4 by decide); omega)
  have n1 : IntKind.i64.wrap (1 + digitS k 640 6) = 1 + digitS k 640 6 := wrapI (by omega) (by omega)
  have n2 : IntKind.i64.wrap (14 + (1 + digitS k 640 6)) = 14 + (1 + digitS k 640 6) := wrapI (by omega) (by omega)
  have hn : 1 + digitS k 640 6 ≤ 1000 := by omega
  have hb := fun at1 n h0 h1 => ask_bits 200 v at1 n h0 h1 (by decide)
  have s0 := Int.emod_nonneg k (show (16 : Int) ≠ 0 by decide)
  have s1 := Int.emod_lt_of_pos k (show (0 : Int) < 16 by decide)
  unfold ask_P askS
  rw [bd_grd (by decide), bd_grd (by decide), bd_grd (by decide)]
  simp only [n1, n2, ask_L2_eq]
  by_cases h3 : digitS k 3840 12 = 0
  · rw [br_t (by rw [h3]; rfl), bd_grd (by decide), bd_grd (by decide)]
    simp only [if_pos h3]
    generalize digitS k 46080 65536 = at1
    generalize k % 16 = sel at s0 s1
    generalize hng : 1 + digitS k 640 6 = n at hn n1 n2
    have hs : sel = 0 ∨ sel = 1 ∨ sel = 2 ∨ sel = 3 ∨ sel = 4 ∨ sel = 5 ∨ sel = 6 ∨ sel = 7 ∨ sel = 8 ∨ sel = 9 ∨ sel = 10 ∨ sel = 11 ∨ sel = 12 ∨ sel = 13 ∨ sel = 14 ∨ sel = 15 := by omega
    rcases hs with rfl | rfl | rfl | rfl | rfl | rfl | rfl | rfl | rfl | rfl | rfl | rfl | rfl | rfl | rfl | rfl
    · rfl
    · rfl
    · rfl
    · rfl
    · rfl
    · rfl
    · simp only [Int.reduceBEq, brfz, brtz]
      rw [bd_grd (by decide)]; simp only [v2]; rfl
    · simp only [Int.reduceBEq, brfz, brtz]
      rw [bd_grd (by decide)]; simp only [v6]; rfl
    · simp only [Int.reduceBEq, brfz, brtz]
      rw [bd_grd (by decide)]; simp only [v6]; rfl
    · simp only [Int.reduceBEq, brfz, brtz]
      rw [bd_grd (by decide)]; simp only [v6]; rfl
    · simp only [Int.reduceBEq, brfz, brtz]
      rw [bd_grd (by decide)]
      show br (digitS v 64 3 == 0) _ _ = some ((if digitS v 64 3 = 0 then ask0 15 (digitS k 16 20) (14 + n) 0 0 0 (bitsS v (14 + n)) [] 0 0 0 0 else ask0 15 at1 n 0 0 0 (bitsS v n) [] 0 0 0 0, ()), (), (), ())
      by_cases h64 : digitS v 64 3 = 0
      · rw [br_t (by rw [h64]; rfl), bd_grd (by decide), if_pos h64]
        exact hb _ _ (by omega) (by omega)
      · rw [br_f (by simpa using h64), if_neg h64]
        exact hb _ _ (by omega) (by omega)
    · simp only [Int.reduceBEq, brfz, brtz]
      rw [bd_grd (decide_eq_true hn)]; rfl
    · simp only [Int.reduceBEq, brfz, brtz]
      rw [bd_grd (decide_eq_true hn)]; rfl
    · simp only [Int.reduceBEq, brfz, brtz]
      rw [bd_grd (by decide), bd_grd (by decide)]; simp only [v7, v8]; rfl
    · simp only [Int.reduceBEq, brfz, brtz]
      rw [bd_grd (decide_eq_true hn), bd_grd (by decide), bd_grd (by decide)]; simp only [v9]; rfl
    · simp only [Int.reduceBEq, brfz, brtz]
      rw [bd_grd (by decide), bd_grd (by decide)]; simp only [v10]; rfl
  · rw [br_f (by simpa using h3), bd_grd (by decide)]
    simp only [if_neg h3]
    generalize digitS k 16 40 = at1
    generalize k % 16 = sel at s0 s1
    generalize hng : 1 + digitS k 640 6 = n at hn n1 n2
    have hs : sel = 0 ∨ sel = 1 ∨ sel = 2 ∨ sel = 3 ∨ sel = 4 ∨ sel = 5 ∨ sel = 6 ∨ sel = 7 ∨ sel = 8 ∨ sel = 9 ∨ sel = 10 ∨ sel = 11 ∨ sel = 12 ∨ sel = 13 ∨ sel = 14 ∨ sel = 15 := by omega
    rcases hs with rfl | rfl | rfl | rfl | rfl | rfl | rfl | rfl | rfl | rfl | rfl | rfl | rfl | rfl | rfl | rfl
    · rfl
    · rfl
    · rfl
    · rfl
    · rfl
    · rfl
    · simp only [Int.reduceBEq, brfz, brtz]
      rw [bd_grd (by decide)]; simp only [v2]; rfl
    · simp only [Int.reduceBEq, brfz, brtz]
      rw [bd_grd (by decide)]; simp only [v6]; rfl
    · simp only [Int.reduceBEq, brfz, brtz]
      rw [bd_grd (by decide)]; simp only [v6]; rfl
    · simp only [Int.reduceBEq, brfz, brtz]
      rw [bd_grd (by decide)]; simp only [v6]; rfl
    · simp only [Int.reduceBEq, brfz, brtz]
      rw [bd_grd (by decide)]
      show br (digitS v 64 3 == 0) _ _ = some ((if digitS v 64 3 = 0 then ask0 15 (digitS k 16 20) (14 + n) 0 0 0 (bitsS v (14 + n)) [] 0 0 0 0 else ask0 15 at1 n 0 0 0 (bitsS v n) [] 0 0 0 0, ()), (), (), ())
      by_cases h64 : digitS v 64 3 = 0
      · rw [br_t (by rw [h64]; rfl), bd_grd (by decide), if_pos h64]
        exact hb _ _ (by omega) (by omega)
      · rw [br_f (by simpa using h64), if_neg h64]
        exact hb _ _ (by omega) (by omega)
    · simp only [Int.reduceBEq, brfz, brtz]
      rw [bd_grd (decide_eq_true hn)]; rfl
    · simp only [Int.reduceBEq, brfz, brtz]
      rw [bd_grd (decide_eq_true hn)]; rfl
    · simp only [Int.reduceBEq, brfz, brtz]
      rw [bd_grd (by decide), bd_grd (by decide)]; simp only [v7, v8]; rfl
    · simp only [Int.reduceBEq, brfz, brtz]
      rw [bd_grd (decide_eq_true hn), bd_grd (by decide), bd_grd (by decide)]; simp only [v9]; rfl
    · simp only [Int.reduceBEq, brfz, brtz]
      rw [bd_grd (by decide), bd_grd (by decide)]; simp only [v10]; rfl
end Go.BB
set_option linter.unusedVariables false
namespace Go.BB
open Go Go.Proofs
set_option maxRecDepth 100000
set_option exponentiation.threshold 100000
noncomputable section
abbrev g_rlay : List (Nat × Ctr O0) := []
def rlay_tm : List Tm := [[((1 : Nat), none, Sh.val (Ty.int IntKind.u16).slice), ((2 : Nat), none, ((Sh.val (Ty.int IntKind.i64)).cons ((Sh.val (Ty.int IntKind.i64)).cons Sh.unit)).ptr), ((5 : Nat), none, Sh.own (((Ty.int IntKind.i64).pair (Ty.int IntKind.i64)).pair (Ty.int IntKind.u16))), ((6 : Nat), none, Sh.val (Ty.int IntKind.i64))]]
def rlay_L1 (rec1 : List Int × (Int × Int × Unit) × List ((Int × Int) × Int) × Int × Unit → Option ((List ((Int × Int) × Int) × Unit) × Unit × Unit × Unit)) : List Int × (Int × Int × Unit) × List ((Int × Int) × Int) × Int × Unit → Option ((List ((Int × Int) × Int) × Unit) × Unit × Unit × Unit) := fun (y3, y4, y5, y6, ()) => br (decide (y6 < (↑y3.length : Int))) (br (decide ((0 : Int) ≤ y6)) (br (decide (y6 < (↑y3.length : Int))) (br (decide ((y5.length + [((y4.1, IntKind.i64.wrap (y4.2.1 + y6)), y3.getD y6.toNat (0 : Int))].length) * (24 : Nat) ≤ LIM)) (br (decide (y5.length + [((y4.1, IntKind.i64.wrap (y4.2.1 + y6)), y3.getD y6.toNat (0 : Int))].length ≤ LIM)) (rec1 (y3, (y4.1, y4.2.1, ()), cat y5 [((y4.1, IntKind.i64.wrap (y4.2.1 + y6)), y3.getD y6.toNat (0 : Int))], IntKind.i64.wrap (y6 + (1 : Int)), ())) none) none) none) none) (some ((y5, ()), (), (), ()))
def rlay_P (K : Nat) (a0 : Int × Int) (a1 : List Int) : Option ((List ((Int × Int) × Int) × Unit) × Unit × Unit × Unit) := loopN rlay_L1 K (a1, (a0.1, a0.2, ()), [], (0 : Int), ())
theorem rlay_rn (K : Nat) (a0 : Int × Int) (a1 : List Int) : runF (cfgW g_rlay) K f_rlay rlay_tm [.val tKey, .val (.slice tW)] [.own tCell] (a0, a1, ()) = rlay_P K a0 a1 := by kernel_rfl
abbrev g_shown : List (Nat × Ctr O0) := []
def shown_tm : List Tm := [[((1 : Nat), none, Sh.val (Ty.int IntKind.u16).slice), ((4 : Nat), none, ((Sh.val (Ty.int IntKind.i64)).cons ((Sh.val (Ty.int IntKind.i64)).cons (Sh.nil.cons (Sh.nil.cons ((Sh.val (Ty.int IntKind.i64)).cons ((Sh.val (Ty.int IntKind.i64)).cons ((Sh.val (Ty.int IntKind.u16)).cons ((Sh.val (Ty.int IntKind.u16)).cons ((Sh.val (Ty.int IntKind.u16)).cons ((Sh.val (Ty.int IntKind.i64)).cons ((Sh.val (Ty.int IntKind.i64)).cons ((Sh.val Ty.bool).cons ((Sh.val (Ty.int IntKind.i64)).cons (Sh.nil.cons Sh.unit)))))))))))))).ptr), ((5 : Nat), none, ((Sh.val (Ty.int IntKind.i64)).cons ((Sh.val (Ty.int IntKind.i64)).cons ((Sh.own Ty.bool).cons (Sh.nil.cons ((Sh.val (Ty.int IntKind.i64)).cons ((Sh.val (Ty.int IntKind.i64)).cons ((Sh.val (Ty.int IntKind.u16)).cons ((Sh.val (Ty.int IntKind.u16)).cons ((Sh.val (Ty.int IntKind.u16)).cons ((Sh.val (Ty.int IntKind.i64)).cons ((Sh.val (Ty.int IntKind.i64)).cons ((Sh.val Ty.bool).cons ((Sh.val (Ty.int IntKind.i64)).cons (Sh.nil.cons Sh.unit)))))))))))))).ptr), ((6 : Nat), none, Sh.val (Ty.int IntKind.i64))]]
def shown_L1 (rec1 : List Int × (Int × Int × Unit × Unit × Int × Int × Int × Int × Int × Int × Int × Bool × Int × Unit × Unit) × (Int × Int × List Bool × Unit × Int × Int × Int × Int × Int × Int × Int × Bool × Int × Unit × Unit) × Int × Unit → Option ((TellT × Unit) × Unit × Unit × Unit)) : List Int × (Int × Int × Unit × Unit × Int × Int × Int × Int × Int × Int × Int × Bool × Int × Unit × Unit) × (Int × Int × List Bool × Unit × Int × Int × Int × Int × Int × Int × Int × Bool × Int × Unit × Unit) × Int × Unit → Option ((TellT × Unit) × Unit × Unit × Unit) := fun (y3, y4, y5, y6, ()) => br (decide (y6 < (↑y3.length : Int))) (br (decide ((0 : Int) ≤ y6)) (br (decide (y6 < (↑y3.length : Int))) (br (decide ((y5.2.2.1.length + [y3.getD y6.toNat (0 : Int) != (0 : Int)].length) * (1 : Nat) ≤ LIM)) (br (decide (y5.2.2.1.length + [y3.getD y6.toNat (0 : Int) != (0 : Int)].length ≤ LIM)) (rec1 (y3, (y4.1, y4.2.1, (), (), y4.2.2.2.2.1, y4.2.2.2.2.2.1, y4.2.2.2.2.2.2.1, y4.2.2.2.2.2.2.2.1, y4.2.2.2.2.2.2.2.2.1, y4.2.2.2.2.2.2.2.2.2.1, y4.2.2.2.2.2.2.2.2.2.2.1, y4.2.2.2.2.2.2.2.2.2.2.2.1, y4.2.2.2.2.2.2.2.2.2.2.2.2.1, (), ()), (y5.1, y5.2.1, cat y5.2.2.1 [y3.getD y6.toNat (0 : Int) != (0 : Int)], (), y5.2.2.2.2.1, y5.2.2.2.2.2.1, y5.2.2.2.2.2.2.1, y5.2.2.2.2.2.2.2.1, y5.2.2.2.2.2.2.2.2.1, y5.2.2.2.2.2.2.2.2.2.1, y5.2.2.2.2.2.2.2.2.2.2.1, y5.2.2.2.2.2.2.2.2.2.2.2.1, y5.2.2.2.2.2.2.2.2.2.2.2.2.1, (), ()), IntKind.i64.wrap (y6 + (1 : Int)), ())) none) none) none) none) (some (((y5.1, y5.2.1, y5.2.2.1, [], y5.2.2.2.2.1, y5.2.2.2.2.2.1, y5.2.2.2.2.2.2.1, y5.2.2.2.2.2.2.2.1, y5.2.2.2.2.2.2.2.2.1, y5.2.2.2.2.2.2.2.2.2.1, y5.2.2.2.2.2.2.2.2.2.2.1, y5.2.2.2.2.2.2.2.2.2.2.2.1, y5.2.2.2.2.2.2.2.2.2.2.2.2.1, []), ()), (), (), ()))
def shown_L2 (rec7 : List Int × (Int × Int × Unit × Unit × Int × Int × Int × Int × Int × Int × Int × Bool × Int × Unit × Unit) × (Int × Int × List Bool × Unit × Int × Int × Int × Int × Int × Int × Int × Bool × Int × Unit × Unit) × Int × Unit → Option ((TellT × Unit) × Unit × Unit × Unit)) : List Int × (Int × Int × Unit × Unit × Int × Int × Int × Int × Int × Int × Int × Bool × Int × Unit × Unit) × (Int × Int × List Bool × Unit × Int × Int × Int × Int × Int × Int × Int × Bool × Int × Unit × Unit) × Int × Unit → Option ((TellT × Unit) × Unit × Unit × Unit) := fun (y9, y10, y11, y12, ()) => br (decide (y12 < (↑y9.length : Int))) (br (decide ((0 : Int) ≤ y12)) (br (decide (y12 < (↑y9.length : Int))) (br (decide ((y11.2.2.1.length + [y9.getD y12.toNat (0 : Int) != (0 : Int)].length) * (1 : Nat) ≤ LIM)) (br (decide (y11.2.2.1.length + [y9.getD y12.toNat (0 : Int) != (0 : Int)].length ≤ LIM)) (rec7 (y9, (y10.1, y10.2.1, (), (), y10.2.2.2.2.1, y10.2.2.2.2.2.1, y10.2.2.2.2.2.2.1, y10.2.2.2.2.2.2.2.1, y10.2.2.2.2.2.2.2.2.1, y10.2.2.2.2.2.2.2.2.2.1, y10.2.2.2.2.2.2.2.2.2.2.1, y10.2.2.2.2.2.2.2.2.2.2.2.1, y10.2.2.2.2.2.2.2.2.2.2.2.2.1, (), ()), (y11.1, y11.2.1, cat y11.2.2.1 [y9.getD y12.toNat (0 : Int) != (0 : Int)], (), y11.2.2.2.2.1, y11.2.2.2.2.2.1, y11.2.2.2.2.2.2.1, y11.2.2.2.2.2.2.2.1, y11.2.2.2.2.2.2.2.2.1, y11.2.2.2.2.2.2.2.2.2.1, y11.2.2.2.2.2.2.2.2.2.2.1, y11.2.2.2.2.2.2.2.2.2.2.2.1, y11.2.2.2.2.2.2.2.2.2.2.2.2.1, (), ()), IntKind.i64.wrap (y12 + (1 : Int)), ())) none) none) none) none) (some (((y11.1, y11.2.1, y11.2.2.1, [], y11.2.2.2.2.1, y11.2.2.2.2.2.1, y11.2.2.2.2.2.2.1, y11.2.2.2.2.2.2.2.1, y11.2.2.2.2.2.2.2.2.1, y11.2.2.2.2.2.2.2.2.2.1, y11.2.2.2.2.2.2.2.2.2.2.1, y11.2.2.2.2.2.2.2.2.2.2.2.1, y11.2.2.2.2.2.2.2.2.2.2.2.2.1, []), ()), (), (), ()))
def shown_P (K : Nat) (a0 : AskT) (a1 : List Int) : Option ((TellT × Unit) × Unit × Unit × Unit) := br (a0.1 != (1 : Int)) (br (a0.1 != (2 : Int)) (br (decide (a1.length * (2 : Nat) ≤ LIM)) (br (decide (a1.length ≤ LIM)) (some (((a0.1, (0 : Int), [], a1, (0 : Int), (0 : Int), (0 : Int), (0 : Int), (0 : Int), (0 : Int), (0 : Int), false, (0 : Int), []), ()), (), (), ())) none) none) (loopN shown_L1 K (a1, ((0 : Int), (0 : Int), (), (), (0 : Int), (0 : Int), (0 : Int), (0 : Int), (0 : Int), (0 : Int), (0 : Int), false, (0 : Int), (), ()), (a0.1, (0 : Int), [], (), (0 : Int), (0 : Int), (0 : Int), (0 : Int), (0 : Int), (0 : Int), (0 : Int), false, (0 : Int), (), ()), (0 : Int), ()))) (loopN shown_L2 K (a1, ((0 : Int), (0 : Int), (), (), (0 : Int), (0 : Int), (0 : Int), (0 : Int), (0 : Int), (0 : Int), (0 : Int), false, (0 : Int), (), ()), (a0.1, (0 : Int), [], (), (0 : Int), (0 : Int), (0 : Int), (0 : Int), (0 : Int), (0 : Int), (0 : Int), false, (0 : Int), (), ()), (0 : Int), ()))
theorem shown_rn (K : Nat) (a0 : AskT) (a1 : List Int) : runF (cfgW g_shown) K f_shown shown_tm [.val tAsk, .val (.slice tW)] [.val tTell] (a0, a1, ()) = shown_P K a0 a1 := by kernel_rfl
end
end Go.BB
set_option linter.unusedVariables false
namespace Go.BB
open Go Go.Proofs
set_option maxRecDepth 100000
set_option exponentiation.threshold 100000
noncomputable section
abbrev g_r21Cells : List (Nat × Ctr O0) := [(n_r5Right, c_r5Right), (n_r1Table, c_r1Table), (n_rlay, c_rlay)]
def r21Cells_tm : List Tm := [[((2 : Nat), none, ((Sh.val (Ty.int IntKind.i64)).cons ((Sh.val (Ty.int IntKind.i64)).cons ((Sh.val (Ty.int IntKind.i64)).cons ((Sh.val (Ty.int IntKind.u16)).cons ((Sh.val (Ty.int IntKind.u16)).cons ((Sh.val (Ty.int IntKind.u16)).cons ((Sh.val Ty.bool.slice).cons ((Sh.val (Ty.int IntKind.u16).slice).cons ((Sh.val (Ty.int IntKind.i64)).cons ((Sh.val (Ty.int IntKind.i64)).cons ((Sh.val (Ty.int IntKind.i64)).cons ((Sh.val (Ty.int IntKind.i64)).cons Sh.unit)))))))))))).ptr), ((7 : Nat), none, ((Sh.val (Ty.int IntKind.i64)).cons ((Sh.val (Ty.int IntKind.i64)).cons Sh.unit)).ptr), ((8 : Nat), none, Sh.own (Ty.int IntKind.u16)), ((9 : Nat), none, Sh.val (Ty.int IntKind.i64))]]
def r21Cells_L1 (rec3 : (Int × Int × Int × Int × Int × Int × List Bool × List Int × Int × Int × Int × Int × Unit) × (Int × Int × Unit) × List Int × Int × Unit → Option ((List ((Int × Int) × Int) × Unit) × Unit × Unit × Unit)) : (Int × Int × Int × Int × Int × Int × List Bool × List Int × Int × Int × Int × Int × Unit) × (Int × Int × Unit) × List Int × Int × Unit → Option ((List ((Int × Int) × Int) × Unit) × Unit × Unit × Unit) := fun (y5, y6, y7, y8, ()) => br (decide (y8 < (↑y5.2.2.2.2.2.2.1.length : Int))) (br (decide ((0 : Int) ≤ y8)) (br (decide (y8 < (↑y5.2.2.2.2.2.2.1.length : Int))) (br (y5.2.2.2.2.2.2.1.getD y8.toNat false) (br (decide ((y7.length + [(1 : Int)].length) * (2 : Nat) ≤ LIM)) (br (decide (y7.length + [(1 : Int)].length ≤ LIM)) (rec3 ((y5.1, y5.2.1, y5.2.2.1, y5.2.2.2.1, y5.2.2.2.2.1, y5.2.2.2.2.2.1, y5.2.2.2.2.2.2.1, y5.2.2.2.2.2.2.2.1, y5.2.2.2.2.2.2.2.2.1, y5.2.2.2.2.2.2.2.2.2.1, y5.2.2.2.2.2.2.2.2.2.2.1, y5.2.2.2.2.2.2.2.2.2.2.2.1, ()), (y6.1, y6.2.1, ()), cat y7 [(1 : Int)], IntKind.i64.wrap (y8 + (1 : Int)), ())) none) none) (br (decide ((y7.length + [(0 : Int)].length) * (2 : Nat) ≤ LIM)) (br (decide (y7.length + [(0 : Int)].length ≤ LIM)) (rec3 ((y5.1, y5.2.1, y5.2.2.1, y5.2.2.2.1, y5.2.2.2.2.1, y5.2.2.2.2.2.1, y5.2.2.2.2.2.2.1, y5.2.2.2.2.2.2.2.1, y5.2.2.2.2.2.2.2.2.1, y5.2.2.2.2.2.2.2.2.2.1, y5.2.2.2.2.2.2.2.2.2.2.1, y5.2.2.2.2.2.2.2.2.2.2.2.1, ()), (y6.1, y6.2.1, ()), cat y7 [(0 : Int)], IntKind.i64.wrap (y8 + (1 : Int)), ())) none) none)) none) none) (bd (grd (lenOk y7 && (decide ((-9223372036854775808 : Int) ≤ y6.2.1) && decide (y6.2.1 ≤ (9223372036853775807 : Int)))) ((layFrom y6.1 y6.2.1 y7, ()), (), (), ())) fun (x9 : (List ((Int × Int) × Int) × Unit) × Unit × Unit × Unit) => some ((x9.1.1, ()), (), (), ()))
def r21Cells_P (K : Nat) (a0 : AskT) (a1 : Int) : Option ((List ((Int × Int) × Int) × Unit) × Unit × Unit × Unit) := br (!askOk (a0.1, a0.2.1, a0.2.2.1, a0.2.2.2.1, a0.2.2.2.2.1, a0.2.2.2.2.2.1, a0.2.2.2.2.2.2.1, a0.2.2.2.2.2.2.2.1, a0.2.2.2.2.2.2.2.2.1, a0.2.2.2.2.2.2.2.2.2.1, a0.2.2.2.2.2.2.2.2.2.2.1, a0.2.2.2.2.2.2.2.2.2.2.2)) (some (([], ()), (), (), ())) (br (a0.1 == (5 : Int)) (bd (grd (lenOk [a0.2.2.2.1] && (decide ((-9223372036854775808 : Int) ≤ a0.2.1) && decide (a0.2.1 ≤ (9223372036853775807 : Int)))) ((layFrom (tabS a0.1).1 a0.2.1 [a0.2.2.2.1], ()), (), (), ())) fun (x1 : (List ((Int × Int) × Int) × Unit) × Unit × Unit × Unit) => some ((x1.1.1, ()), (), (), ())) (br (a0.1 == (6 : Int)) (bd (grd (lenOk [a0.2.2.2.1] && (decide ((-9223372036854775808 : Int) ≤ a0.2.1) && decide (a0.2.1 ≤ (9223372036853775807 : Int)))) ((layFrom (tabS a0.1).1 a0.2.1 [a0.2.2.2.1], ()), (), (), ())) fun (x2 : (List ((Int × Int) × Int) × Unit) × Unit × Unit × Unit) => some ((x2.1.1, ()), (), (), ())) (br (a0.1 == (15 : Int)) (loopN r21Cells_L1 K ((a0.1, a0.2.1, a0.2.2.1, a0.2.2.2.1, a0.2.2.2.2.1, a0.2.2.2.2.2.1, a0.2.2.2.2.2.2.1, a0.2.2.2.2.2.2.2.1, a0.2.2.2.2.2.2.2.2.1, a0.2.2.2.2.2.2.2.2.2.1, a0.2.2.2.2.2.2.2.2.2.2.1, a0.2.2.2.2.2.2.2.2.2.2.2, ()), ((tabS a0.1).1, a0.2.1, ()), [], (0 : Int), ())) (br (a0.1 == (16 : Int)) (bd (grd (lenOk a0.2.2.2.2.2.2.2.1 && (decide ((-9223372036854775808 : Int) ≤ a0.2.1) && decide (a0.2.1 ≤ (9223372036853775807 : Int)))) ((layFrom (tabS a0.1).1 a0.2.1 a0.2.2.2.2.2.2.2.1, ()), (), (), ())) fun (x10 : (List ((Int × Int) × Int) × Unit) × Unit × Unit × Unit) => some ((x10.1.1, ()), (), (), ())) (br (a0.1 == (23 : Int)) (bd (grd (lenOk a0.2.2.2.2.2.2.2.1 && (decide ((-9223372036854775808 : Int) ≤ a0.2.1) && decide (a0.2.1 ≤ (9223372036853775807 : Int)))) ((layFrom (tabS a0.1).1 a0.2.1 a0.2.2.2.2.2.2.2.1, ()), (), (), ())) fun (x11 : (List ((Int × Int) × Int) × Unit) × Unit × Unit × Unit) => some ((x11.1.1, ()), (), (), ())) (br (a0.1 == (22 : Int)) (bd (grd (lenOk [IntKind.u16.wrap (↑(BitVec.ofInt (16 : Nat) (IntKind.u16.wrap (↑(BitVec.ofInt (16 : Nat) a1 &&& BitVec.ofInt (16 : Nat) a0.2.2.2.2.1).toNat : Int)) ||| BitVec.ofInt (16 : Nat) (IntKind.u16.wrap (↑(BitVec.ofInt (16 : Nat) a0.2.2.2.2.2.1 &&& BitVec.ofInt (16 : Nat) (IntKind.u16.wrap ((65535 : Int) - a0.2.2.2.2.1))).toNat : Int))).toNat : Int)] && (decide ((-9223372036854775808 : Int) ≤ a0.2.1) && decide (a0.2.1 ≤ (9223372036853775807 : Int)))) ((layFrom (tabS a0.1).1 a0.2.1 [IntKind.u16.wrap (↑(BitVec.ofInt (16 : Nat) (IntKind.u16.wrap (↑(BitVec.ofInt (16 : Nat) a1 &&& BitVec.ofInt (16 : Nat) a0.2.2.2.2.1).toNat : Int)) ||| BitVec.ofInt (16 : Nat) (IntKind.u16.wrap (↑(BitVec.ofInt (16 : Nat) a0.2.2.2.2.2.1 &&& BitVec.ofInt (16 : Nat) (IntKind.u16.wrap ((65535 : Int) - a0.2.2.2.2.1))).toNat : Int))).toNat : Int)], ()), (), (), ())) fun (x12 : (List ((Int × Int) × Int) × Unit) × Unit × Unit × Unit) => some ((x12.1.1, ()), (), (), ())) (some (([], ()), (), (), ()))))))))
theorem r21Cells_rn (K : Nat) (a0 : AskT) (a1 : Int) : runF (cfgW g_r21Cells) K f_r21Cells r21Cells_tm [.val tAsk, .val tW] [.own tCell] (a0, a1, ()) = r21Cells_P K a0 a1 := by kernel_rfl
end
end Go.BB
set_option linter.unusedVariables false
namespace Go.BB
open Go Go.Proofs
set_option maxRecDepth 100000
set_option exponentiation.threshold 100000
noncomputable section
abbrev g_rfget : List (Nat × Ctr O0) := [(n_rbget, c_rbget)]
def rfget_tm : List Tm := []
def rfget_P (K : Nat) (a0 : List ((Int × Int) × Int) × Unit) (a1 : Int × Int) : Option ((Int × Unit) × (List ((Int × Int) × Int) × Unit) × Unit × Unit) := bd (grd (lenOk a0.1 && bufS a0.1) (((getK a0.1 (a1.1, a1.2)).1, (getK a0.1 (a1.1, a1.2)).2, ()), (), (), ())) fun (x1 : (Int × Bool × Unit) × Unit × Unit × Unit) => some ((x1.1.1, ()), (a0.1, ()), (), ())
theorem rfget_rn (K : Nat) (a0 : List ((Int × Int) × Int) × Unit) (a1 : Int × Int) : runF (cfgW g_rfget) K f_rfget rfget_tm [.box shRFile, .val tKey] [.val tW] (a0, a1, ()) = rfget_P K a0 a1 := by kernel_rfl
abbrev g_rfset : List (Nat × Ctr O0) := [(n_rput, c_rput)]
def rfset_tm : List Tm := [[((0 : Nat), some (0 : Nat), ((Sh.own (((Ty.int IntKind.i64).pair (Ty.int IntKind.i64)).pair (Ty.int IntKind.u16))).cons Sh.unit).ptr), ((1 : Nat), none, Sh.val (((Ty.int IntKind.i64).pair (Ty.int IntKind.i64)).pair (Ty.int IntKind.u16)).slice), ((4 : Nat), none, Sh.val (Ty.int IntKind.i64))]]
def rfset_L1 (rec1 : (List ((Int × Int) × Int) × Unit) × List ((Int × Int) × Int) × Int × Unit → Option (Unit × (List ((Int × Int) × Int) × Unit) × Unit × Unit)) : (List ((Int × Int) × Int) × Unit) × List ((Int × Int) × Int) × Int × Unit → Option (Unit × (List ((Int × Int) × Int) × Unit) × Unit × Unit) := fun (y3, y4, y5, ()) => br (decide (y5 < (↑y4.length : Int))) (br (decide ((0 : Int) ≤ y5)) (br (decide (y5 < (↑y4.length : Int))) (br (decide ((y4.getD y5.toNat (((0 : Int), (0 : Int)), (0 : Int))).1.1 ≥ (0 : Int))) (br (decide ((y4.getD y5.toNat (((0 : Int), (0 : Int)), (0 : Int))).1.1 ≤ (3 : Int))) (br (decide ((y4.getD y5.toNat (((0 : Int), (0 : Int)), (0 : Int))).1.2 ≥ (0 : Int))) (br (decide ((y4.getD y5.toNat (((0 : Int), (0 : Int)), (0 : Int))).1.2 < (65536 : Int))) (br (decide ((0 : Int) ≤ y5)) (br (decide (y5 < (↑y4.length : Int))) (bd (grd (lenOk y3.1 && bufS y3.1) ((putK y3.1 (((y4.getD y5.toNat (((0 : Int), (0 : Int)), (0 : Int))).1.1, (y4.getD y5.toNat (((0 : Int), (0 : Int)), (0 : Int))).1.2), (y4.getD y5.toNat (((0 : Int), (0 : Int)), (0 : Int))).2), ()), (), (), ())) fun (x6 : (List ((Int × Int) × Int) × Unit) × Unit × Unit × Unit) => rec1 ((x6.1.1, ()), y4, IntKind.i64.wrap (y5 + (1 : Int)), ())) none) none) (rec1 ((y3.1, ()), y4, IntKind.i64.wrap (y5 + (1 : Int)), ()))) (rec1 ((y3.1, ()), y4, IntKind.i64.wrap (y5 + (1 : Int)), ()))) (rec1 ((y3.1, ()), y4, IntKind.i64.wrap (y5 + (1 : Int)), ()))) (rec1 ((y3.1, ()), y4, IntKind.i64.wrap (y5 + (1 : Int)), ()))) none) none) (some ((), (y3.1, ()), (), ()))
def rfset_P (K : Nat) (a0 : List ((Int × Int) × Int) × Unit) (a1 : List ((Int × Int) × Int)) : Option (Unit × (List ((Int × Int) × Int) × Unit) × Unit × Unit) := loopN rfset_L1 K ((a0.1, ()), a1, (0 : Int), ())
theorem rfset_rn (K : Nat) (a0 : List ((Int × Int) × Int) × Unit) (a1 : List ((Int × Int) × Int)) : runF (cfgW g_rfset) K f_rfset rfset_tm [.box shRFile, .val (.slice tCell)] [] (a0, a1, ()) = rfset_P K a0 a1 := by kernel_rfl
end
end Go.BB
