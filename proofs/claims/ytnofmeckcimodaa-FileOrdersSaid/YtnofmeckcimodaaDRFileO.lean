/- A symbolic machine for the model's code, and what it shows of this seat's functions. No conditions. -/
import Derived.Test.YtnofmeckcimodaaDGfdk
import Derived.Test.YtnofmeckcimodaaDGfdj
import Derived.Test.YtnofmeckcimodaaDVord
import Derived.Test.YtnofmeckcimodaaDVbuff
import Derived.Test.YtnofmeckcimodaaDGfdv
import Derived.Test.YtnofmeckcimodaaRows
import Derived.WalkKit
import Derived.ProofKit
set_option linter.unusedSimpArgs false
set_option linter.unusedVariables false
namespace Go.BB
open Go Go.Proofs
set_option maxRecDepth 100000
abbrev zDeed : Deed := (false, 0, [], [])
abbrev OrdRes := Option ((List Deed × Unit) × Unit × Unit)
theorem insD_split {x : Deed} : ∀ {p q : List Deed}, (∀ a ∈ p, deedCmp x a < 0) → (q = [] ∨ ∃ c q', q = c :: q' ∧ ¬ deedCmp x c < 0) → insD x (p ++ q) = p ++ x :: q
  | [], q, _, h => by
    rcases h with rfl | ⟨c, q', rfl, h⟩
    · rfl
    · show (if _ then _ else _) = _
      rw [if_neg h]; rfl
  | a :: p, q, hp, h => by
    show (if deedCmp x a < 0 then a :: insD x (p ++ q) else _) = _
    rw [if_pos (hp a List.mem_cons_self), insD_split (fun b hb => hp b (List.mem_cons_of_mem _ hb)) h]; rfl
/-- the tail of a round -/
def ordT (rec1 : List Deed × List Deed × Int × Unit → OrdRes) (l out : List Deed) (i k : Int) : OrdRes :=
  br (decide (0 ≤ k)) (br (decide (k ≤ (↑out.length : Int))) (br (decide ((List.take k.toNat (List.drop (0 : Nat) out)).length * (64 : Nat) ≤ LIM)) (br (decide ((List.take k.toNat (List.drop (0 : Nat) out)).length ≤ LIM)) (br (decide (0 ≤ i)) (br (decide (i < (↑l.length : Int)))
    (br (decide (((List.take k.toNat (List.drop (0 : Nat) out)).length + [l.getD i.toNat zDeed].length) * (64 : Nat) ≤ LIM)) (br (decide ((List.take k.toNat (List.drop (0 : Nat) out)).length + [l.getD i.toNat zDeed].length ≤ LIM)) (br (decide (0 ≤ k)) (br (decide (k ≤ (↑out.length : Int)))
      (br (decide (((cat (List.take k.toNat (List.drop (0 : Nat) out)) [l.getD i.toNat zDeed]).length + (List.take (out.length - k.toNat) (List.drop k.toNat out)).length) * (64 : Nat) ≤ LIM)) (br (decide ((cat (List.take k.toNat (List.drop (0 : Nat) out)) [l.getD i.toNat zDeed]).length + (List.take (out.length - k.toNat) (List.drop k.toNat out)).length ≤ LIM))
        (rec1 (l, cat (cat (List.take k.toNat (List.drop (0 : Nat) out)) [l.getD i.toNat zDeed]) (List.take (out.length - k.toNat) (List.drop k.toNat out)), IntKind.i64.wrap (i + (1 : Int)), ())) none) none) none) none) none) none) none) none) none) none) none) none
theorem ord_L1 (rec1 : List Deed × List Deed × Int × Unit → OrdRes) (rec6 : List Deed × List Deed × Int × Int × Unit → OrdRes) (l out : List Deed) (i k : Int) :
    rorder_L1 rec1 rec6 (l, out, i, k, ()) = br (decide (k > 0)) (br (decide (0 ≤ IntKind.i64.wrap (k - (1 : Int)))) (br (decide (IntKind.i64.wrap (k - (1 : Int)) < (↑out.length : Int))) (br (decide (0 ≤ i)) (br (decide (i < (↑l.length : Int)))
      (br (!aheadB (out.getD (IntKind.i64.wrap (k - (1 : Int))).toNat zDeed) (l.getD i.toNat zDeed)) (rec6 (l, out, i, IntKind.i64.wrap (k - (1 : Int)), ())) (ordT rec1 l out i k)) none) none) none) none) (ordT rec1 l out i k) := by kernel_rfl
theorem ordT_eq (rec1 : List Deed × List Deed × Int × Unit → OrdRes) (l out : List Deed) (i k : Nat) (hi : i < l.length) (hk : k ≤ out.length) (ho : out.length ≤ 1000) (hl : l.length ≤ 1000) :
    ordT rec1 l out i k = rec1 (l, out.take k ++ l.getD i zDeed :: out.drop k, ((i + 1 : Nat) : Int), ()) := by
  have e1 : ((k : Nat) : Int).toNat = k := by omega
  have e2 : ((i : Nat) : Int).toNat = i := by omega
  have h1 : (List.take k (List.drop 0 out)).length = k := by simp; omega
  have h2 : (List.take (out.length - k) (List.drop k out)).length = out.length - k := by simp
  have h3 : ∀ x : Deed, (cat (List.take k (List.drop 0 out)) [x]).length = k + 1 := by intro x; unfold cat; rw [List.length_append, h1]; rfl
  unfold ordT
  simp only [e1, e2, h1, h2, h3, List.length_singleton]
  rw [br_dt (by omega), br_dt (by omega), br_dt (by unfold LIM; omega), br_dt (by unfold LIM; omega), br_dt (by omega), br_dt (by omega), br_dt (by unfold LIM; omega), br_dt (by unfold LIM; omega), br_dt (by omega), br_dt (by omega), br_dt (by unfold LIM; omega), br_dt (by unfold LIM; omega), wrapI (by omega) (by omega)]
  have e3 : List.take (out.length - k) (List.drop k out) = out.drop k := List.take_of_length_le (by simp)
  rw [e3]
  unfold cat
  simp
theorem rorder_in (K : Nat) (rec1 : List Deed × List Deed × Int × Unit → OrdRes) (l : List Deed) (i : Nat) (hi : i < l.length) (hl : l.length ≤ 1000) (r : List Deed) (hr : r.length ≤ 1000) (hK : r.length < K) :
    loopN (rorder_L1 rec1) K (l, r.reverse, (i : Int), ((r.reverse.length : Nat) : Int), ()) = rec1 (l, (insD (l.getD i zDeed) r).reverse, ((i + 1 : Nat) : Int), ()) := by
  refine loopN_meas (fun x => x.2.2.2.1.toNat) (fun x => ∃ p q : List Deed, r = p ++ q ∧ (∀ a ∈ p, deedCmp (l.getD i zDeed) a < 0) ∧ x = (l, r.reverse, (i : Int), ((q.length : Nat) : Int), ())) (fun _ => rec1 (l, (insD (l.getD i zDeed) r).reverse, ((i + 1 : Nat) : Int), ())) ?_ K _ ⟨[], r, rfl, (fun _ h => nomatch h), by rw [List.length_reverse]⟩ (by simp only [List.length_reverse]; omega)
  rintro x ⟨p, q, hr', hp, rfl⟩ rec6 hrec
  rw [ord_L1]
  have hlen : r.reverse.length = p.length + q.length := by rw [List.length_reverse, hr', List.length_append]
  have hlr : r.length = p.length + q.length := by rw [hr', List.length_append]
  have stop : (q = [] ∨ ∃ c q', q = c :: q' ∧ ¬ deedCmp (l.getD i zDeed) c < 0) → ordT rec1 l r.reverse (i : Int) ((q.length : Nat) : Int) = rec1 (l, (insD (l.getD i zDeed) r).reverse, ((i + 1 : Nat) : Int), ()) := by
    intro h
    rw [ordT_eq rec1 l _ i q.length hi (by omega) (by omega) hl]
    have e : insD (l.getD i zDeed) r = p ++ l.getD i zDeed :: q := by rw [hr']; exact insD_split hp h
    have e1 : r.reverse = q.reverse ++ p.reverse := by rw [hr', List.reverse_append]
    rw [e, e1, List.take_left' (by simp), List.drop_left' (by simp)]
    simp
  cases q with
  | nil =>
    rw [br_df (by simp)]
    exact stop (.inl rfl)
  | cons c q =>
    simp only [List.length_cons] at hlen hlr
    have ew : IntKind.i64.wrap ((((c :: q).length : Nat) : Int) - 1) = ((q.length : Nat) : Int) := by
      rw [wrapI (by simp only [List.length_cons]; omega) (by simp only [List.length_cons]; omega)]; simp only [List.length_cons]; omega
    have eg : r.reverse.getD (((q.length : Nat) : Int).toNat) zDeed = c := by
      rw [show ((q.length : Nat) : Int).toNat = q.length by omega, hr', List.reverse_append, List.reverse_cons, List.append_assoc, getD_app_ge _ _ _ _ (by simp)]
      simp
    rw [br_dt (by simp only [List.length_cons]; omega), ew, br_dt (by omega), br_dt (by omega), br_dt (by omega), br_dt (by omega), eg, show ((i : Nat) : Int).toNat = i by omega]
    cases ha : aheadB c (l.getD i zDeed) with
    | false =>
      have hc := (aheadB_cmp _ _).1 ha
      rw [show (!false) = true from rfl, br_t rfl]
      refine hrec _ ⟨p ++ [c], q, by rw [hr']; simp, fun a h => ?_, rfl⟩ (by simp only [List.length_cons]; omega)
      rcases List.mem_append.1 h with h | h
      · exact hp a h
      · rw [List.mem_singleton.1 h]; exact hc
    | true =>
      rw [show (!true) = false from rfl, br_f rfl]
      exact stop (.inr ⟨c, q, rfl, fun h => by rw [(aheadB_cmp _ _).2 h] at ha; cases ha⟩)
theorem v_rorder : Valid Try.prog n_rorder c_rorder := by
  refine valid_fn mixed hf_rorder (by kernel_rfl) rfl (ts := tmpsOf f_rorder.results.toList) (by kernel_rfl) (cfg := cfgW g_rorder) tt_ok (Γok_cons v_rahead Γok_nil) rorder_tm c_rorder (by kernel_rfl) (fun _ _ _ _ => ⟨⟩) ?_
  rintro ⟨(l : List Deed), ⟨⟩⟩ r u h
  obtain ⟨h1, h2⟩ := grd_some h
  have hl : l.length ≤ 1000 := of_decide_eq_true h1
  refine ⟨1002, (rorder_rn _ _).trans (Eq.trans ?_ (congrArg some h2))⟩
  show loopN (rorder_L2 1002) 1002 (l, (sortR (l.take 0)).reverse, ((0 : Nat) : Int), ()) = some ((sortD l, ()), (), ())
  refine loopN_for (step := rorder_L2 1002) l.length (fun i => (l, (sortR (l.take i)).reverse, (i : Int), ())) (fun i hi rec => ?_) (fun rec => ?_) 1002 (by omega)
  · simp only [rorder_L2]
    have hs : (sortR (l.take i)).length = i := by rw [sortR_len]; simp; omega
    rw [br_dt (by omega), rorder_in 1002 rec l i hi hl (sortR (l.take i)) (by omega) (by omega)]
    have e : l.take (i + 1) = l.take i ++ [l.getD i zDeed] := by
      rw [List.take_add_one, List.getD_eq_getElem?_getD, List.getElem?_eq_getElem hi]; rfl
    rw [e, sortR_snoc]
  · simp only [rorder_L2]
    rw [br_df (by omega), List.take_length]
    rfl

/-! held against each other -/
abbrev SameRes := Option ((Bool × Unit) × Unit × Unit × Unit)
theorem br_same {c : Bool} {A : SameRes} {q : Bool} (h0 : c = false → q = false) (h1 : c = true → A = some ((q, ()), (), (), ())) : br c A (some ((false, ()), (), (), ())) = some ((q, ()), (), (), ()) := by
  cases c with
  | false => show some _ = _; rw [h0 rfl]
  | true => exact h1 rfl
theorem br_samen {c : Bool} {A : SameRes} {q : Bool} (h0 : c = false → q = false) (h1 : c = true → A = some ((q, ()), (), (), ())) : br (!c) (some ((false, ()), (), (), ())) A = some ((q, ()), (), (), ()) := by
  cases c with
  | false => show some _ = _; rw [h0 rfl]
  | true => exact h1 rfl
theorem v_sameAsk : Valid Try.prog n_sameAsk c_sameAsk := by
  refine valid_fn mixed hf_sameAsk (by kernel_rfl) rfl (ts := tmpsOf f_sameAsk.results.toList) (by kernel_rfl) (cfg := cfgW g_sameAsk) tt_ok (Γok_cons v_r5sameBits (Γok_cons v_r5sameWords Γok_nil)) sameAsk_tm c_sameAsk (by kernel_rfl) (fun _ _ _ _ => ⟨⟩) ?_
  rintro ⟨(a : AskT), (b : AskT), ⟨⟩⟩ r u h
  obtain ⟨h1, h2⟩ := grd_some h
  obtain ⟨g1, g2⟩ := Bool.and_eq_true_iff.1 (show (lenOk (aBits a) && lenOk (aWords a)) = true from h1)
  refine ⟨0, (sameAsk_rn _ a b).trans (Eq.trans ?_ (congrArg some h2))⟩
  have ne : ∀ {c : Bool}, (a = b → c = true) → c = false → sameAskB a b = false := fun hc h => decide_eq_false fun e => by rw [hc e] at h; cases h
  unfold sameAsk_P
  refine br_same (ne fun e => by rw [e]; exact beq_self_eq_true _) fun k1 => ?_
  refine br_same (ne fun e => by rw [e]; exact beq_self_eq_true _) fun k2 => ?_
  refine br_same (ne fun e => by rw [e]; exact beq_self_eq_true _) fun k3 => ?_
  refine br_same (ne fun e => by rw [e]; exact beq_self_eq_true _) fun k4 => ?_
  refine br_same (ne fun e => by rw [e]; exact beq_self_eq_true _) fun k5 => ?_
  refine br_same (ne fun e => by rw [e]; exact beq_self_eq_true _) fun k6 => ?_
  rw [bd_grd g1]
  refine br_same (ne fun e => by rw [e]; exact decide_eq_true rfl) fun k7 => ?_
  rw [bd_grd g2]
  refine br_same (ne fun e => by rw [e]; exact decide_eq_true rfl) fun k8 => ?_
  refine br_same (ne fun e => by rw [e]; exact beq_self_eq_true _) fun k9 => ?_
  refine br_same (ne fun e => by rw [e]; exact beq_self_eq_true _) fun k10 => ?_
  refine br_same (ne fun e => by rw [e]; exact beq_self_eq_true _) fun k11 => ?_
  have key : (a.2.2.2.2.2.2.2.2.2.2.2 == b.2.2.2.2.2.2.2.2.2.2.2) = sameAskB a b := by
    cases hq : (a.2.2.2.2.2.2.2.2.2.2.2 == b.2.2.2.2.2.2.2.2.2.2.2) with
    | false => exact (ne (fun e => by rw [e]; exact beq_self_eq_true _) hq).symm
    | true =>
      refine (decide_eq_true ?_).symm
      exact Prod.ext (eq_of_beq k1) (Prod.ext (eq_of_beq k2) (Prod.ext (eq_of_beq k3) (Prod.ext (eq_of_beq k4) (Prod.ext (eq_of_beq k5) (Prod.ext (eq_of_beq k6) (Prod.ext (of_decide_eq_true k7) (Prod.ext (of_decide_eq_true k8) (Prod.ext (eq_of_beq k9) (Prod.ext (eq_of_beq k10) (Prod.ext (eq_of_beq k11) (eq_of_beq hq)))))))))))
  rw [key]
theorem bytes_ext {a b : ByteArray} (h : a.toList = b.toList) : a = b := by
  rw [ByteArray.toList_eq, ByteArray.toList_eq] at h
  cases a; cases b
  simpa using h
theorem objEq (a b : ObjT) : (a.1 == b.1 && ByteArray.toList a.2 == ByteArray.toList b.2) = decide (a = b) := by
  by_cases h : a = b
  · rw [h]; simp
  · rw [decide_eq_false h]
    cases h1 : (a.1 == b.1) with
    | false => rfl
    | true =>
      cases h2 : (ByteArray.toList a.2 == ByteArray.toList b.2) with
      | false => rfl
      | true => exact absurd (Prod.ext (eq_of_beq h1) (bytes_ext (eq_of_beq h2))) h
abbrev tObjs (t : TellT) : List ObjT := t.2.2.2.2.2.2.2.2.2.2.2.2.2
abbrev TellU := Int × Int × List Bool × List Int × Int × Int × Int × Int × Int × Int × Int × Bool × Int × List ObjT × Unit
abbrev tellU (a : TellT) : TellU := (a.1, a.2.1, a.2.2.1, a.2.2.2.1, a.2.2.2.2.1, a.2.2.2.2.2.1, a.2.2.2.2.2.2.1, a.2.2.2.2.2.2.2.1, a.2.2.2.2.2.2.2.2.1, a.2.2.2.2.2.2.2.2.2.1, a.2.2.2.2.2.2.2.2.2.2.1, a.2.2.2.2.2.2.2.2.2.2.2.1, a.2.2.2.2.2.2.2.2.2.2.2.2.1, a.2.2.2.2.2.2.2.2.2.2.2.2.2, ())
/-- the numbers -/
def tellN (a b : TellT) : SameRes :=
  br (a.1 == b.1) (br (a.2.1 == b.2.1) (bd (grd (lenOk a.2.2.1) ((sameS a.2.2.1 b.2.2.1, ()), (), (), ())) fun (x6 : (Bool × Unit) × Unit × Unit × Unit) => br x6.1.1
    (bd (grd (lenOk a.2.2.2.1) ((sameS a.2.2.2.1 b.2.2.2.1, ()), (), (), ())) fun (x7 : (Bool × Unit) × Unit × Unit × Unit) => br x7.1.1
      (br (a.2.2.2.2.1 == b.2.2.2.2.1) (br (a.2.2.2.2.2.1 == b.2.2.2.2.2.1) (br (a.2.2.2.2.2.2.1 == b.2.2.2.2.2.2.1) (br (a.2.2.2.2.2.2.2.1 == b.2.2.2.2.2.2.2.1) (br (a.2.2.2.2.2.2.2.2.1 == b.2.2.2.2.2.2.2.2.1)
        (br (a.2.2.2.2.2.2.2.2.2.1 == b.2.2.2.2.2.2.2.2.2.1) (br (a.2.2.2.2.2.2.2.2.2.2.1 == b.2.2.2.2.2.2.2.2.2.2.1) (br (a.2.2.2.2.2.2.2.2.2.2.2.1 == b.2.2.2.2.2.2.2.2.2.2.2.1)
          (some ((a.2.2.2.2.2.2.2.2.2.2.2.2.1 == b.2.2.2.2.2.2.2.2.2.2.2.2.1, ()), (), (), ())) (some ((false, ()), (), (), ()))) (some ((false, ()), (), (), ()))) (some ((false, ()), (), (), ()))) (some ((false, ()), (), (), ()))) (some ((false, ()), (), (), ()))) (some ((false, ()), (), (), ()))) (some ((false, ()), (), (), ()))) (some ((false, ()), (), (), ())))
      (some ((false, ()), (), (), ()))) (some ((false, ()), (), (), ()))) (some ((false, ()), (), (), ()))) (some ((false, ()), (), (), ()))
theorem tellN_eq (a b : TellT) (hl : tellLen a = true) (ho : tObjs a = tObjs b) : tellN a b = some ((sameTellB a b, ()), (), (), ()) := by
  have hl' : lenOk a.2.2.1 = true ∧ lenOk a.2.2.2.1 = true := by
    unfold tellLen at hl
    simp only [Bool.and_eq_true] at hl
    exact ⟨hl.1, hl.2.1⟩
  obtain ⟨g1, g2⟩ := hl'
  have ne : ∀ {c : Bool}, (a = b → c = true) → c = false → sameTellB a b = false := fun hc h => decide_eq_false fun e => by rw [hc e] at h; cases h
  unfold tellN
  refine br_same (ne fun e => by rw [e]; exact beq_self_eq_true _) fun k1 => ?_
  refine br_same (ne fun e => by rw [e]; exact beq_self_eq_true _) fun k2 => ?_
  rw [bd_grd g1]
  refine br_same (ne fun e => by rw [e]; exact decide_eq_true rfl) fun k3 => ?_
  rw [bd_grd g2]
  refine br_same (ne fun e => by rw [e]; exact decide_eq_true rfl) fun k4 => ?_
  refine br_same (ne fun e => by rw [e]; exact beq_self_eq_true _) fun k5 => ?_
  refine br_same (ne fun e => by rw [e]; exact beq_self_eq_true _) fun k6 => ?_
  refine br_same (ne fun e => by rw [e]; exact beq_self_eq_true _) fun k7 => ?_
  refine br_same (ne fun e => by rw [e]; exact beq_self_eq_true _) fun k8 => ?_
  refine br_same (ne fun e => by rw [e]; exact beq_self_eq_true _) fun k9 => ?_
  refine br_same (ne fun e => by rw [e]; exact beq_self_eq_true _) fun k10 => ?_
  refine br_same (ne fun e => by rw [e]; exact beq_self_eq_true _) fun k11 => ?_
  refine br_same (ne fun e => by rw [e]; exact beq_self_eq_true _) fun k12 => ?_
  have key : (a.2.2.2.2.2.2.2.2.2.2.2.2.1 == b.2.2.2.2.2.2.2.2.2.2.2.2.1) = sameTellB a b := by
    cases hq : (a.2.2.2.2.2.2.2.2.2.2.2.2.1 == b.2.2.2.2.2.2.2.2.2.2.2.2.1) with
    | false => exact (ne (fun e => by rw [e]; exact beq_self_eq_true _) hq).symm
    | true =>
      refine (decide_eq_true ?_).symm
      exact Prod.ext (eq_of_beq k1) (Prod.ext (eq_of_beq k2) (Prod.ext (of_decide_eq_true k3) (Prod.ext (of_decide_eq_true k4) (Prod.ext (eq_of_beq k5) (Prod.ext (eq_of_beq k6) (Prod.ext (eq_of_beq k7) (Prod.ext (eq_of_beq k8) (Prod.ext (eq_of_beq k9) (Prod.ext (eq_of_beq k10) (Prod.ext (eq_of_beq k11) (Prod.ext (eq_of_beq k12) (Prod.ext (eq_of_beq hq) ho))))))))))))
  rw [key]
theorem tell_L1 (rec1 : TellU × TellU × Int × Unit → SameRes) (a b : TellT) (i : Int) : sameTell_L1 rec1 (tellU a, tellU b, i, ()) =
    br (decide (i < (↑(tObjs a).length : Int))) (br (decide ((0 : Int) ≤ i)) (br (decide (i < (↑(tObjs a).length : Int))) (br (decide ((0 : Int) ≤ i)) (br (decide (i < (↑(tObjs b).length : Int)))
      (br (!(((tObjs a).getD i.toNat ((0 : Int), ByteArray.empty)).1 == ((tObjs b).getD i.toNat ((0 : Int), ByteArray.empty)).1 && ByteArray.toList ((tObjs a).getD i.toNat ((0 : Int), ByteArray.empty)).2 == ByteArray.toList ((tObjs b).getD i.toNat ((0 : Int), ByteArray.empty)).2))
        (some ((false, ()), (), (), ())) (rec1 (tellU a, tellU b, IntKind.i64.wrap (i + (1 : Int)), ()))) none) none) none) none) (tellN a b) := by kernel_rfl
theorem v_sameTell : Valid Try.prog n_sameTell c_sameTell := by
  refine valid_fn mixed hf_sameTell (by kernel_rfl) rfl (ts := tmpsOf f_sameTell.results.toList) (by kernel_rfl) (cfg := cfgW g_sameTell) tt_ok (Γok_cons v_r5sameBits (Γok_cons v_r5sameWords Γok_nil)) sameTell_tm c_sameTell (by kernel_rfl) (fun _ _ _ _ => ⟨⟩) ?_
  rintro ⟨(a : TellT), (b : TellT), ⟨⟩⟩ r u h
  obtain ⟨h1, h2⟩ := grd_some h
  have hl : tellLen a = true := h1
  have hlo : (tObjs a).length < 1000000 := by
    unfold tellLen at hl
    simp only [Bool.and_eq_true] at hl
    exact lenOk_lt hl.2.2
  refine ⟨(tObjs a).length + 1, (sameTell_rn _ a b).trans (Eq.trans ?_ (congrArg some h2))⟩
  have ne : ∀ {c : Bool}, (a = b → c = true) → c = false → sameTellB a b = false := fun hc h => decide_eq_false fun e => by rw [hc e] at h; cases h
  show br ((↑(tObjs a).length : Int) != (↑(tObjs b).length : Int)) (some ((false, ()), (), (), ())) (loopN sameTell_L1 ((tObjs a).length + 1) (tellU a, tellU b, 0, ())) = some ((sameTellB a b, ()), (), (), ())
  by_cases hab : (tObjs a).length = (tObjs b).length
  · rw [br_f (by simp [hab])]
    refine loopN_meas (fun x => (tObjs a).length - x.2.2.1.toNat) (fun x => ∃ i : Nat, i ≤ (tObjs a).length ∧ x = (tellU a, tellU b, (i : Int), ()) ∧ (tObjs a).take i = (tObjs b).take i) (fun _ => some ((sameTellB a b, ()), (), (), ())) ?_ _ (tellU a, tellU b, 0, ()) ⟨0, by omega, rfl, by simp⟩ (by simp)
    rintro x ⟨i, hi, rfl, ht⟩ rec hrec
    rw [tell_L1]
    have ei : ((i : Nat) : Int).toNat = i := by omega
    by_cases h : i < (tObjs a).length
    · rw [br_dt (by omega), br_dt (by omega), br_dt (by omega), br_dt (by omega), br_dt (by omega), wrapI (by omega) (by omega), ei, objEq]
      refine br_samen (fun hx => decide_eq_false fun e => ?_) fun hx => ?_
      · have hx := of_decide_eq_false hx
        exact hx (by rw [e])
      · have hx := of_decide_eq_true hx
        refine hrec _ ⟨i + 1, by omega, by simp, ?_⟩ (by simp only; omega)
        rw [List.take_add_one, List.take_add_one, ht]
        congr 1
        rw [List.getD_eq_getElem?_getD, List.getD_eq_getElem?_getD, List.getElem?_eq_getElem h, List.getElem?_eq_getElem (by omega : i < (tObjs b).length)] at hx
        rw [List.getElem?_eq_getElem h, List.getElem?_eq_getElem (by omega : i < (tObjs b).length)]
        exact congrArg (fun x => (some x).toList) hx
    · rw [br_df (by omega)]
      refine tellN_eq a b hl ?_
      rw [List.take_of_length_le (by omega), List.take_of_length_le (by omega)] at ht
      exact ht
  · rw [br_t (by simp; omega)]
    exact (congrArg (fun q => some ((q, ()), (), (), ())) (decide_eq_false (p := a = b) fun e => hab (by rw [e]))).symm
abbrev zStep : StepT := ((0, 0, 0, 0, 0, 0, [], [], 0, 0, 0, 0), (0, 0, [], [], 0, 0, 0, 0, 0, 0, 0, false, 0, []))
abbrev DeedU := Bool × Int × List StepT × List Cel × Unit
abbrev deedU (d : Deed) : DeedU := (d.1, d.2.1, d.2.2.1, d.2.2.2, ())
theorem deed_L1 (rec2 : DeedU × DeedU × Int × Unit → SameRes) (d e : Deed) (i : Int) : sameDeed_L1 rec2 (deedU d, deedU e, i, ()) =
    br (decide (i < (↑d.2.2.1.length : Int))) (br (decide (0 ≤ i)) (br (decide (i < (↑d.2.2.1.length : Int))) (br (decide (0 ≤ i)) (br (decide (i < (↑e.2.2.1.length : Int)))
      (bd (grd (askLen (d.2.2.1.getD i.toNat zStep).1) ((sameAskB (d.2.2.1.getD i.toNat zStep).1 (e.2.2.1.getD i.toNat zStep).1, ()), (), (), ())) fun (x7 : (Bool × Unit) × Unit × Unit × Unit) => br (!x7.1.1) (some ((false, ()), (), (), ()))
        (br (decide (0 ≤ i)) (br (decide (i < (↑d.2.2.1.length : Int))) (br (decide (0 ≤ i)) (br (decide (i < (↑e.2.2.1.length : Int)))
          (bd (grd (tellLen (d.2.2.1.getD i.toNat zStep).2) ((sameTellB (d.2.2.1.getD i.toNat zStep).2 (e.2.2.1.getD i.toNat zStep).2, ()), (), (), ())) fun (x8 : (Bool × Unit) × Unit × Unit × Unit) => br (!x8.1.1) (some ((false, ()), (), (), ()))
            (rec2 (deedU d, deedU e, IntKind.i64.wrap (i + (1 : Int)), ()))) none) none) none) none)) none) none) none) none) (some ((true, ()), (), (), ())) := by kernel_rfl
theorem v_sameDeed : Valid Try.prog n_sameDeed c_sameDeed := by
  refine valid_fn mixed hf_sameDeed (by kernel_rfl) rfl (ts := tmpsOf f_sameDeed.results.toList) (by kernel_rfl) (cfg := cfgW g_sameDeed) tt_ok (Γok_cons v_sameCells (Γok_cons v_sameAsk (Γok_cons v_sameTell Γok_nil))) sameDeed_tm c_sameDeed (by kernel_rfl) (fun _ _ _ _ => ⟨⟩) ?_
  rintro ⟨(a : Deed), (b : Deed), ⟨⟩⟩ r u h
  obtain ⟨h1, h2⟩ := grd_some h
  obtain ⟨g1, g2, g3⟩ := deedOk_iff.1 (show deedOk a = true from h1)
  refine ⟨a.2.2.1.length + 1, (sameDeed_rn _ a b).trans (Eq.trans ?_ (congrArg some h2))⟩
  have ne : ∀ {c : Bool}, (a = b → c = true) → c = false → sameDeedB a b = false := fun hc h => decide_eq_false fun e => by rw [hc e] at h; cases h
  unfold sameDeed_P
  refine br_samen (ne fun e => by rw [e]; exact beq_self_eq_true _) fun k1 => ?_
  refine br_samen (ne fun e => by rw [e]; exact beq_self_eq_true _) fun k2 => ?_
  refine br_samen (ne fun e => by rw [e]; exact beq_self_eq_true _) fun k3 => ?_
  rw [bd_grd (decide_eq_true g2)]
  refine br_samen (ne fun e => by rw [e]; exact decide_eq_true rfl) fun k4 => ?_
  have hab : a.2.2.1.length = b.2.2.1.length := by have := eq_of_beq k3; omega
  show loopN sameDeed_L1 (a.2.2.1.length + 1) (deedU a, deedU b, 0, ()) = some ((sameDeedB a b, ()), (), (), ())
  refine loopN_meas (fun x => a.2.2.1.length - x.2.2.1.toNat) (fun x => ∃ i : Nat, i ≤ a.2.2.1.length ∧ x = (deedU a, deedU b, (i : Int), ()) ∧ a.2.2.1.take i = b.2.2.1.take i) (fun _ => some ((sameDeedB a b, ()), (), (), ())) ?_ _ (deedU a, deedU b, 0, ()) ⟨0, by omega, rfl, by simp⟩ (by simp)
  rintro x ⟨i, hi, rfl, ht⟩ rec hrec
  rw [deed_L1]
  have ei : ((i : Nat) : Int).toNat = i := by omega
  by_cases h : i < a.2.2.1.length
  · obtain ⟨s1, s2, s3, s4, s5⟩ := stepOk_iff.1 (g3 _ (mem_getD (z := zStep) h))
    have w1 : askLen (a.2.2.1.getD i zStep).1 = true := Bool.and_eq_true_iff.2 ⟨lenOk_of s1, lenOk_of s2⟩
    have w2 : tellLen (a.2.2.1.getD i zStep).2 = true := Bool.and_eq_true_iff.2 ⟨lenOk_of s3, Bool.and_eq_true_iff.2 ⟨lenOk_of s4, lenOk_of s5⟩⟩
    rw [br_dt (by omega), br_dt (by omega), br_dt (by omega), br_dt (by omega), br_dt (by omega), ei, bd_grd w1]
    refine br_samen (ne fun e => by rw [e]; exact decide_eq_true rfl) fun k5 => ?_
    rw [br_dt (by omega), br_dt (by omega), br_dt (by omega), br_dt (by omega), bd_grd w2]
    refine br_samen (ne fun e => by rw [e]; exact decide_eq_true rfl) fun k6 => ?_
    rw [wrapI (by omega) (by omega)]
    refine hrec _ ⟨i + 1, by omega, by simp, ?_⟩ (by simp only; omega)
    have hx : a.2.2.1.getD i zStep = b.2.2.1.getD i zStep := Prod.ext (of_decide_eq_true k5) (of_decide_eq_true k6)
    rw [List.take_add_one, List.take_add_one, ht]
    congr 1
    rw [List.getD_eq_getElem?_getD, List.getD_eq_getElem?_getD, List.getElem?_eq_getElem h, List.getElem?_eq_getElem (by omega : i < b.2.2.1.length)] at hx
    rw [List.getElem?_eq_getElem h, List.getElem?_eq_getElem (by omega : i < b.2.2.1.length)]
    exact congrArg (fun x => (some x).toList) hx
  · rw [br_df (by omega)]
    rw [List.take_of_length_le (by omega), List.take_of_length_le (by omega)] at ht
    exact (congrArg (fun q => some ((q, ()), (), (), ())) (decide_eq_true (p := a = b) (Prod.ext (eq_of_beq k1) (Prod.ext (eq_of_beq k2) (Prod.ext ht (of_decide_eq_true k4)))))).symm
end Go.BB
set_option linter.unusedSimpArgs false
set_option linter.unusedVariables false
namespace Go.BB
open Go Go.Proofs
set_option maxRecDepth 100000
theorem brNTo {α : Type} {x y : α} : br (!true) x y = y := rfl
theorem lv_FileOrders : Valid Try.prog n_lFileOrders ⟨valsOf [.slice tI, .slice tI], [.val .bool], Fok (tys := [.slice tI, .slice tI]) (fun _ => true) ((), (), ())⟩ := by
  refine valid_law mixed hf_lFileOrders (by kernel_rfl) rfl (ts := tmpsOf f_lFileOrders.results.toList) (by kernel_rfl) (cfg := cfgW g_lFileOrders) tt_ok
    (Γok_cons v_awake27 (Γok_cons v_deeds (Γok_cons v_forder (Γok_cons v_rorder (Γok_cons v_sameDeed Γok_nil))))) lFileOrders_tm (by kernel_rfl) ?_
  rintro ⟨(as1 : List Int), (bs : List Int), ⟨⟩⟩ _
  refine ⟨30, (lFileOrders_rn _ _ _).trans ?_⟩
  unfold lFileOrders_P
  by_cases h1 : (as1.length : Int) > 20
  · rw [br_dt h1]; rfl
  rw [br_df h1]
  by_cases h2 : (bs.length : Int) > 40
  · rw [br_dt h2]; rfl
  rw [br_df h2, brNTo, bd_grd (and_t (decide_eq_true (by omega)) (decide_eq_true (by omega)))]
  simp only
  obtain ⟨hl, hok⟩ := deedsS_ok as1 bs false
  generalize deedsS as1 bs false = l at hl hok ⊢
  have hsl := sortD_len l
  have hso : ∀ d ∈ sortD l, deedOk d = true := fun d hd => hok d ((perm_sortD l).mem_iff.1 hd)
  rw [bd_grd (and_t (decide_eq_true (by omega)) (List.all_eq_true.2 hok))]
  simp only
  rw [bd_grd (decide_eq_true (by omega))]
  simp only
  rw [br_f (by simp), br_f (by simp [hsl])]
  refine loopN_for (step := lFileOrders_L1) (sortD l).length (fun i => (l, l, sortD l, sortD l, (i : Int), ())) (fun i hi rec => ?_) (fun rec => ?_) 30 (by omega)
  · have e1 : ((i : Nat) : Int).toNat = i := by omega
    have g1 : deedOk ((sortD l).getD i zDeed) = true := hso _ (mem_getD hi)
    have g2 : deedOk (l.getD i zDeed) = true := hok _ (mem_getD (by omega))
    have q : ∀ d : Deed, sameDeedB d d = true := fun d => decide_eq_true rfl
    show lFileOrders_L1 rec (l, l, sortD l, sortD l, (i : Int), ()) = _
    simp only [lFileOrders_L1, e1]
    rw [br_dt (by omega), br_dt (by omega), br_dt (by omega), br_dt (by omega), br_dt (by omega)]
    refine (congrArg (fun z => bd z _) (grd_t (v := ((sameDeedB ((sortD l).getD i zDeed) ((sortD l).getD i zDeed), ()), (), (), ())) g1)).trans ?_
    show br (!sameDeedB ((sortD l).getD i zDeed) ((sortD l).getD i zDeed)) _ _ = _
    rw [q, brNTo, br_dt (by omega), br_dt (by omega), br_dt (by omega), br_dt (by omega)]
    refine (congrArg (fun z => bd z _) (grd_t (v := ((sameDeedB (l.getD i zDeed) (l.getD i zDeed), ()), (), (), ())) g2)).trans ?_
    show br (!sameDeedB (l.getD i zDeed) (l.getD i zDeed)) _ _ = _
    rw [q, brNTo, wrapI (by omega) (by omega)]
    rfl
  · simp only [lFileOrders_L1]
    rw [br_df (by omega)]
    rfl
end Go.BB
set_option linter.unusedSimpArgs false
set_option linter.unusedVariables false
namespace Go.Proofs.Ytnofmeckcimodaa
open Go.BB Go.ChangeShapes Go.WideShapes Go.ChangeAt Go.RowKit
namespace Bb
theorem own : ownKnob Try.prog.godebug = none := by kernel_rfl
theorem laidOut : laidOutB Try.prog = true := by kernel_rfl
theorem reads (ts : List Nat) (h : (ts.all fun t => Try.prog.readableRec t && decide (t < Try.prog.types.size)) = true) : ∀ t ∈ ts, Try.prog.readableRec t = true ∧ t < Try.prog.types.size := by
  intro t ht
  have := List.all_eq_true.1 h t ht
  simpa using this
end Bb
namespace fileOrders
set_option maxRecDepth 100000 in
theorem lifted (os : Os) (started : os.Started) (H : Type) (enc : TypeId × Value → H) :
    ReturnsInHanded {} Try.checked os 7 .any (Rows.fileOrdersSpec.pre6 enc Try.prog Try.f7 Rows.fileOrdersRow.domain false) (Rows.fileOrdersSpec.post enc Try.prog Try.f7 false true false false) :=
  law_lifted2 (C := Try.checked) (O := O0) (tys := [.slice tI, .slice tI]) Bb.own started (by kernel_rfl) Try.func7
    (ChangeSpec.witness6 (enc := enc) (C := Try.checked) false ⟨#[], #[.slice none 0 0, .slice none 0 0], []⟩ 8 (by kernel_rfl) (by kernel_rfl) (by kernel_rfl) (by kernel_rfl))
    Bb.laidOut (by kernel_rfl) (Bb.reads _ (by kernel_rfl)) rfl Try.underlying4 rfl (fun ds h => by match ds, h with | [_, _], _ => rfl) lv_FileOrders (fun x h => ⟨_, grd_t rfl⟩)
theorem over : Rows.fileOrdersRow.holds Try.pinned (OpenSpec.ofChange Rows.fileOrdersSpec) :=
  OpenClaim.holds_of_wide 7 Try.f7 rfl rfl rfl rfl rfl rfl rfl ⟨rfl, rfl, rfl, rfl, rfl⟩ rfl rfl rfl rfl rfl (by kernel_rfl) Try.func7 (by kernel_rfl)
    (of_decide_eq_true (by kernel_rfl)) (by unfold Func.isWrapper; first | (rw [if_pos (by decide +kernel)]; kernel_rfl) | (rw [if_neg (by decide +kernel)]; exact ⟨rfl, rfl⟩))
    (fun os started H enc _ => lifted os started H enc)
end fileOrders
/-- The row FileOrders. -/
theorem fileOrders_holds : Rows.FileOrdersSaid := fileOrders.over
#print axioms fileOrders_holds
end Go.Proofs.Ytnofmeckcimodaa
